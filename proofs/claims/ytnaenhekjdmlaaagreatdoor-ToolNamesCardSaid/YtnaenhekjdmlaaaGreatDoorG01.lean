/-
  The plain laws of a directory's entries: lists ordered by name. No program in sight.
-/
import Derived.Lib.Bytealg
import Derived.Lib.MinMaxS
import Derived.Lib.SplitLaws
import Derived.WalkKit
import Derived.WalkSpells
import Derived.WalkLawsBesides
import Derived.Lib.Hide
import Derived.Lib.AppendZeros
import Derived.Lib.AppendZerosOnto
import Derived.Lib.Overlaps
import Derived.Deep.AppendSrc
import Derived.Deep.Draws
import Derived.KernelRfl
import Derived.Maps.OwnOps
import Derived.Maps.OwnSet
import Derived.Lib.ConvBytes
import Derived.Laws.IdiomStrings
import Derived.Deep.MidRow
import Derived.Deep.Upon
import Derived.Test.YtnaenhekjdmlaaaGreatDoorProg
import Derived.Lib.Slices
import Derived.StillTailTactics

set_option linter.unusedSimpArgs false
set_option linter.unusedVariables false
set_option maxRecDepth 100000
namespace Go.Proofs.YtnaenhekjdmlaaaGreatDoor
abbrev Ent := ByteArray × Int
def bLt (a b : ByteArray) : Bool := decide (a.data.toList < b.data.toList)
theorem bLt_irrefl (a : ByteArray) : bLt a a = false := by simp [bLt, List.lt_irrefl]
theorem bLt_trans {a b c : ByteArray} (h : bLt a b = true) (k : bLt b c = true) : bLt a c = true := by
 simp only [bLt, decide_eq_true_eq] at *; exact List.lt_trans h k
theorem bLt_asymm {a b : ByteArray} (h : bLt a b = true) : bLt b a = false := by
 cases hb : bLt b a with
 | false => rfl
 | true => have := bLt_trans h hb; rw [bLt_irrefl] at this; cases this
theorem eq_of_data {a b : ByteArray} (h : a.data.toList = b.data.toList) : a = b := by
 cases a; cases b; congr; exact Array.toList_inj.1 h
theorem bLt_total {a b : ByteArray} (h : bLt a b = false) (k : bLt b a = false) : a = b := by
 simp only [bLt, decide_eq_false_iff_not, List.not_lt] at h k
 exact eq_of_data (List.le_antisymm k h)
theorem cmp_lists (a b : List UInt8) : (Lib.compareBytes a b < 0 ↔ a < b) ∧ (Lib.compareBytes a b = 0 ↔ a = b) := by
 induction a generalizing b with
 | nil =>
   cases b with
   | nil => simp [Lib.compareBytes]
   | cons b bs => simp [Lib.compareBytes]
 | cons a la ih =>
   cases b with
   | nil => simp [Lib.compareBytes]
   | cons b bs =>
     have ih := ih bs
     unfold Lib.compareBytes
     by_cases h1 : a < b
     ·have hne : a ≠ b := by intro e; subst e; exact absurd h1 (UInt8.lt_irrefl _)
      simp [h1, List.cons_lt_cons_iff, hne]
     ·by_cases h2 : b < a
      ·have hne : a ≠ b := by intro e; subst e; exact absurd h2 (UInt8.lt_irrefl _)
       simp [h1, h2, List.cons_lt_cons_iff, hne]
      ·have he : a = b := UInt8.le_antisymm (UInt8.not_lt.1 h2) (UInt8.not_lt.1 h1)
       subst he
       simp [List.cons_lt_cons_iff, ih.1, ih.2]
theorem cmp_neg0 (a b : ByteArray) : decide (Lib.compareBytes a.data.toList b.data.toList < 0) = bLt a b := by
 simp only [bLt, (cmp_lists a.data.toList b.data.toList).1]
theorem cmp_zero0 (a b : ByteArray) : Lib.compareBytes a.data.toList b.data.toList = 0 ↔ a = b :=
 (cmp_lists a.data.toList b.data.toList).2.trans ⟨eq_of_data, fun h => by rw [h]⟩
theorem toList_eq (a b : ByteArray) : (a.toList == b.toList) = decide (a = b) := by
 rw [Bool.eq_iff_iff]; simp only [beq_iff_eq, decide_eq_true_eq, Lib.toList_data]
 exact ⟨eq_of_data, fun h => by rw [h]⟩
def Rising (l : List Ent) : Prop := l.Pairwise (fun a b => bLt a.1 b.1 = true)
def lb (l : List Ent) (name : ByteArray) : Nat := (l.takeWhile fun e => bLt e.1 name).length
def entGet (l : List Ent) (name : ByteArray) : Option Int := (l.find? fun e => decide (e.1 = name)).map (·.2)
def entHas (l : List Ent) (name : ByteArray) : Bool := l.any fun e => decide (e.1 = name)
def entDel (l : List Ent) (name : ByteArray) : List Ent := l.filter fun e => !decide (e.1 = name)
def entSet (l : List Ent) (name : ByteArray) (n : Int) : List Ent := l.map fun e => if e.1 = name then (e.1, n) else e
def entPut (l : List Ent) (name : ByteArray) (n : Int) : List Ent := l.filter (fun e => bLt e.1 name) ++ [(name, n)] ++ l.filter (fun e => bLt name e.1)
def bCmp (a b : ByteArray) : Int := Lib.compareBytes a.data.toList b.data.toList
def bIdx (s : ByteArray) (c : UInt8) : Int := Lib.indexByte s.data.toList c
def entSize (l : List Ent) : Nat := (l.map fun e => e.1.size).sum
def hasB (s : ByteArray) (c : UInt8) : Bool := s.data.toList.contains c
def okName (s : ByteArray) : Bool :=
 decide (1 <= s.size) && decide (s.size <= 255) && s.data.toList != [46] && s.data.toList != [46, 46] && !hasB s 47 && !hasB s 0
def putErr (l : List Ent) (name : ByteArray) : Int :=
 if 255 < name.size then 18 else if okName name = false then 11 else if entHas l name then 13 else 0
def putTo (l : List Ent) (name : ByteArray) (n : Int) : List Ent := if putErr l name = 0 then entPut l name n else l
def hasErr (l : List Ent) (name : ByteArray) : Int := if entHas l name then 0 else 12
theorem indexByte_neg (l : List UInt8) (c : UInt8) : decide (Lib.indexByte l c < 0) = !l.contains c := by
 have hg := Lib.indexByte_ge
 induction l with
 | nil => rfl
 | cons b l ih =>
   unfold Lib.indexByte
   by_cases hb : (b == c) = true
   ·have : b = c := by simpa using hb
    subst this
    simp
   ·have hne : ¬ c = b := fun e => hb (by simp [e])
    have ih' : (Lib.indexByte l c < 0) ↔ ¬ c ∈ l := by
     have := ih; rw [Bool.eq_iff_iff] at this; simpa using this
    have h1 := hg l c
    simp only [hb, Bool.false_eq_true, if_false]
    rw [Bool.eq_iff_iff]
    by_cases h2 : Lib.indexByte l c = -1
    ·have : ¬ c ∈ l := ih'.1 (by omega)
     simp [h2, hne, this]
    ·have : c ∈ l := Decidable.byContradiction fun h => by have := ih'.2 h; omega
     simp [h2, hne, this]; omega
theorem bCmp_neg (a b : ByteArray) : bCmp a b < 0 ↔ bLt a b = true := by
 have := cmp_neg0 a b; rw [Bool.eq_iff_iff] at this; simpa [bCmp] using this
theorem bCmp_zero (a b : ByteArray) : bCmp a b = 0 ↔ a = b := cmp_zero0 a b
theorem bIdx_neg (s : ByteArray) (c : UInt8) : bIdx s c < 0 ↔ hasB s c = false := by
 have := indexByte_neg s.data.toList c; rw [Bool.eq_iff_iff] at this; simpa [bIdx, hasB] using this
theorem byte_eq (x : UInt8) (c : Int) (h0 : 0 <= c) (h1 : c < 256) : ((x.toNat : Int) == c) = decide (x = c.toNat.toUInt8) := by
 have := x.toNat_lt
 rw [Bool.eq_iff_iff, beq_iff_eq, decide_eq_true_eq]
 constructor
 ·intro h
  apply UInt8.toNat_inj.1
  have e : c.toNat.toUInt8.toNat = c.toNat % 256 := by simp
  rw [e, <- h, Int.toNat_natCast]
  omega
 ·intro h
  rw [h]
  have e : c.toNat.toUInt8.toNat = c.toNat % 256 := by simp
  rw [e]; omega
theorem toList_nil (s : ByteArray) : s.toList = [] ↔ s.size = 0 := by
 rw [Lib.toList_data, Lib.size_eq, List.length_eq_zero_iff]
theorem okName_eq (s : ByteArray) : okName s = (!s.toList.isEmpty && decide ((s.size : Int) <= 255) && !(s.toList == [46]) && !(s.toList == [46, 46]) && decide (bIdx s 47 < 0) && decide (bIdx s 0 < 0)) := by
 have h0 := toList_nil s
 have h1 : (s.toList.isEmpty = true) ↔ s.size = 0 := by rw [List.isEmpty_iff]; exact h0
 rw [Bool.eq_iff_iff]
 simp only [okName, Bool.and_eq_true, decide_eq_true_eq, bIdx_neg, Bool.not_eq_true', beq_eq_false_iff_ne, bne_iff_ne, Lib.toList_data] at *
 have h2 : (s.data.toList.isEmpty = false) ↔ ¬ s.size = 0 := by rw [<- h1]; simp
 rw [h2]
 constructor
 ·rintro ⟨⟨⟨⟨⟨a, b⟩, c⟩, d⟩, e⟩, f⟩; exact ⟨⟨⟨⟨⟨by omega, by omega⟩, c⟩, d⟩, e⟩, f⟩
 ·rintro ⟨⟨⟨⟨⟨a, b⟩, c⟩, d⟩, e⟩, f⟩; exact ⟨⟨⟨⟨⟨by omega, by omega⟩, c⟩, d⟩, e⟩, f⟩
/-! ### what a rising list gives -/
theorem Rising.get {l : List Ent} (h : Rising l) {i j : Nat} {x y : Ent} (hi : l[i]? = some x) (hj : l[j]? = some y) (hij : i < j) : bLt x.1 y.1 = true := by
 obtain ⟨hi1, hi2⟩ := List.getElem?_eq_some_iff.1 hi
 obtain ⟨hj1, hj2⟩ := List.getElem?_eq_some_iff.1 hj
 have := List.pairwise_iff_getElem.1 h i j hi1 hj1 hij
 rw [hi2, hj2] at this; exact this
theorem lb_unique {l : List Ent} {name : ByteArray} (i : Nat) (hi : i <= l.length) (h1 : ∀ j x, j < i -> l[j]? = some x -> bLt x.1 name = true) (h2 : ∀ x, l[i]? = some x -> bLt x.1 name = false) : lb l name = i := by
 unfold lb
 induction l generalizing i with
 | nil => simp at hi; subst hi; rfl
 | cons a l ih =>
   cases i with
   | zero =>
     have := h2 a rfl
     simp [List.takeWhile_cons, this]
   | succ i =>
     have ha := h1 0 a (by omega) rfl
     rw [List.takeWhile_cons, ha]
     simp only [if_true, List.length_cons]
     congr 1
     exact ih i (by simpa using hi) (fun j x hj hx => h1 (j + 1) x (by omega) (by simpa using hx)) (fun x hx => h2 x (by simpa using hx))
theorem lb_le (l : List Ent) (name : ByteArray) : lb l name <= l.length := (List.takeWhile_prefix _).length_le
theorem lb_before {l : List Ent} {name : ByteArray} {j : Nat} {x : Ent} (hj : j < lb l name) (hx : l[j]? = some x) : bLt x.1 name = true := by
 unfold lb at hj
 induction l generalizing j with
 | nil => simp at hj
 | cons a l ih =>
   by_cases ha : bLt a.1 name = true
   ·rw [List.takeWhile_cons, if_pos ha] at hj
    cases j with
    | zero => simp at hx; subst hx; exact ha
    | succ j => exact ih (by simpa using hj) (by simpa using hx)
   ·rw [List.takeWhile_cons, if_neg ha] at hj; simp at hj
theorem lb_at {l : List Ent} {name : ByteArray} {x : Ent} (hx : l[lb l name]? = some x) : bLt x.1 name = false := by
 unfold lb at hx
 induction l with
 | nil => simp at hx
 | cons a l ih =>
   by_cases ha : bLt a.1 name = true
   ·rw [List.takeWhile_cons, if_pos ha] at hx; exact ih (by simpa using hx)
   ·rw [List.takeWhile_cons, if_neg ha] at hx; simp at hx; subst hx; simpa using ha
theorem lb_has {l : List Ent} (h : Rising l) (name : ByteArray) : entHas l name = match l[lb l name]? with | some x => decide (x.1 = name) | none => false := by
 rw [Bool.eq_iff_iff]
 simp only [entHas, List.any_eq_true, decide_eq_true_eq]
 constructor
 ·rintro ⟨x, hx, rfl⟩
  obtain ⟨j, hj⟩ := List.mem_iff_getElem?.1 hx
  have hle : lb l x.1 <= j := Nat.le_of_not_lt fun hlt => by have := lb_before hlt hj; rw [bLt_irrefl] at this; cases this
  have hjl := (List.getElem?_eq_some_iff.1 hj).1
  obtain ⟨y, hy⟩ : ∃ y, l[lb l x.1]? = some y := ⟨_, List.getElem?_eq_getElem (by omega)⟩
  rw [hy]
  simp only [decide_eq_true_eq]
  by_cases he : lb l x.1 = j
  ·rw [he] at hy; rw [hj] at hy; cases hy; rfl
  ·have h1 := h.get hy hj (by omega)
   have h2 := lb_at hy
   rw [h1] at h2; cases h2
 ·intro hm
  cases hl : l[lb l name]? with
  | none => rw [hl] at hm; cases hm
  | some x => rw [hl] at hm; exact ⟨x, List.mem_of_getElem? hl, by simpa using hm⟩
theorem lb_split {l : List Ent} (h : Rising l) (name : ByteArray) : l.take (lb l name) = l.filter (fun e => bLt e.1 name) ∧ l.drop (lb l name) = l.filter (fun e => !bLt e.1 name) := by
 unfold lb
 induction l with
 | nil => simp
 | cons a l ih =>
   have ih := ih (List.Pairwise.of_cons h)
   have hall := (List.pairwise_cons.1 h).1
   by_cases ha : bLt a.1 name = true
   ·simp only [List.takeWhile_cons, ha, if_true, List.length_cons, List.take_succ_cons, List.drop_succ_cons, List.filter_cons, Bool.not_true, Bool.false_eq_true, if_false]
    exact ⟨by rw [ih.1], ih.2⟩
   ·have hno : ∀ x ∈ l, bLt x.1 name = false := fun x hx => by
     cases hc : bLt x.1 name with
     | false => rfl
     | true => exact absurd (bLt_trans (hall x hx) hc) ha
    have e1 : l.filter (fun e => bLt e.1 name) = [] := List.filter_eq_nil_iff.2 fun x hx => by rw [hno x hx]; simp
    have e2 : l.filter (fun e => !bLt e.1 name) = l := List.filter_eq_self.2 fun x hx => by rw [hno x hx]; rfl
    simp [List.takeWhile_cons, ha, List.filter_cons, e1, e2]
theorem ne_of_lt {a b : ByteArray} (h : bLt a b = true) : a ≠ b := fun e => by subst e; rw [bLt_irrefl] at h; cases h
theorem put_at {l : List Ent} (h : Rising l) (name : ByteArray) (n : Int) (hno : entHas l name = false) : l.take (lb l name) ++ (name, n) :: l.drop (lb l name) = entPut l name n := by
 obtain ⟨h1, h2⟩ := lb_split h name
 rw [h1, h2]
 unfold entPut
 rw [List.append_assoc]
 congr 1
 rw [List.singleton_append]; congr 1
 refine List.filter_congr fun x hx => ?_
 have hne : x.1 ≠ name := fun e => by
  have : entHas l name = true := List.any_eq_true.2 ⟨x, hx, by simp [e]⟩
  rw [this] at hno; cases hno
 cases hc : bLt x.1 name with
 | true => rw [bLt_asymm hc]; rfl
 | false =>
   cases hd : bLt name x.1 with
   | true => rfl
   | false => exact absurd (bLt_total hc hd) hne
theorem Rising.filter {l : List Ent} (h : Rising l) (p : Ent -> Bool) : Rising (l.filter p) := List.Pairwise.filter _ h
theorem Rising.put {l : List Ent} (h : Rising l) (name : ByteArray) (n : Int) : Rising (entPut l name n) := by
 unfold entPut Rising
 rw [List.append_assoc, List.pairwise_append]
 refine ⟨h.filter _, ?_, ?_⟩
 ·simp only [List.singleton_append, List.pairwise_cons]
  exact ⟨fun x hx => (by simpa using (List.mem_filter.1 hx).2), h.filter _⟩
 ·intro x hx y hy
  have hx := (List.mem_filter.1 hx).2
  simp only [List.singleton_append, List.mem_cons] at hy
  rcases hy with rfl | hy
  ·exact hx
  ·exact bLt_trans hx (by simpa using (List.mem_filter.1 hy).2)
theorem Rising.del {l : List Ent} (h : Rising l) (name : ByteArray) : Rising (entDel l name) := h.filter _
theorem Rising.set {l : List Ent} (h : Rising l) (name : ByteArray) (n : Int) : Rising (entSet l name n) := by
 unfold entSet Rising
 rw [List.pairwise_map]
 refine h.imp fun {a b} hab => ?_
 split <;> split <;> exact hab
theorem del_at {l : List Ent} (h : Rising l) (name : ByteArray) (hyes : entHas l name = true) : l.take (lb l name) ++ l.drop (lb l name + 1) = entDel l name := by
 rw [lb_has h] at hyes
 cases hl : l[lb l name]? with
 | none => rw [hl] at hyes; cases hyes
 | some x =>
   rw [hl] at hyes
   have hx : x.1 = name := by simpa using hyes
   have hlt := (List.getElem?_eq_some_iff.1 hl).1
   have hsplit : l = l.take (lb l name) ++ x :: l.drop (lb l name + 1) := by
    conv => lhs; rw [<- List.take_append_drop (lb l name) l, List.drop_eq_getElem_cons hlt]
    rw [(List.getElem?_eq_some_iff.1 hl).2]
   have hp := h
   unfold Rising at hp
   rw [hsplit, List.pairwise_append, List.pairwise_cons] at hp
   obtain ⟨_, ⟨ha, _⟩, hb⟩ := hp
   conv => rhs; rw [hsplit]
   unfold entDel
   rw [List.filter_append, List.filter_cons_of_neg (by simp [hx])]
   rw [List.filter_eq_self.2 (fun y hy => by have := ne_of_lt (hb y hy x (by simp)); rw [hx] at this; simpa using this)]
   rw [List.filter_eq_self.2 (fun y hy => by have := ne_of_lt (ha y hy); rw [hx] at this; simpa using (Ne.symm this))]
theorem get_at {l : List Ent} (h : Rising l) (name : ByteArray) : entGet l name = match l[lb l name]? with | some x => if x.1 = name then some x.2 else none | none => none := by
 cases hh : entHas l name with
 | false =>
   have hn : l.find? (fun e => decide (e.1 = name)) = none := by
    rw [List.find?_eq_none]; intro x hx hc
    have : entHas l name = true := List.any_eq_true.2 ⟨x, hx, hc⟩
    rw [this] at hh; cases hh
   rw [lb_has h] at hh
   unfold entGet; rw [hn]
   cases hl : l[lb l name]? with
   | none => rfl
   | some x => rw [hl] at hh; simp at hh; simp [hh]
 | true =>
   rw [lb_has h] at hh
   cases hl : l[lb l name]? with
   | none => rw [hl] at hh; cases hh
   | some x =>
     rw [hl] at hh
     have hx : x.1 = name := by simpa using hh
     simp only [hx, if_true]
     unfold entGet
     have : l.find? (fun e => decide (e.1 = name)) = some x := by
      rw [List.find?_eq_some_iff_getElem]
      have hlt := (List.getElem?_eq_some_iff.1 hl)
      refine ⟨by simp [hx], lb l name, hlt.1, hlt.2, fun j hj => ?_⟩
      have hltl := hlt.1
      have := ne_of_lt (lb_before hj (List.getElem?_eq_getElem (by omega)))
      simpa using this
     rw [this]; rfl
abbrev slashB : ByteArray := ⟨#[47]⟩
def pcsL : List UInt8 -> List (List UInt8)
 | [] => [[]]
 | c :: s => if c = 47 then [] :: pcsL s else match pcsL s with
   | [] => [[c]]
   | p :: r => (c :: p) :: r
theorem pcsL_ne : ∀ s, pcsL s ≠ []
 | [] => by simp [pcsL]
 | c :: s => by
   unfold pcsL
   split
   ·simp
   ·split <;> simp
theorem pcsL_none : ∀ s : List UInt8, (∀ c ∈ s, ¬ c = 47) -> pcsL s = [s]
 | [], _ => rfl
 | c :: s, h => by
   unfold pcsL
   rw [if_neg (h c (by simp)), pcsL_none s (fun x hx => h x (by simp [hx]))]
theorem pcsL_cut : ∀ (p s : List UInt8), (∀ c ∈ p, ¬ c = 47) -> pcsL (p ++ 47 :: s) = p :: pcsL s
 | [], s, _ => by simp [pcsL]
 | c :: p, s, h => by
   show pcsL (c :: (p ++ 47 :: s)) = _
   rw [pcsL, if_neg (h c (by simp)), pcsL_cut p s (fun x hx => h x (by simp [hx]))]
def ofL (l : List UInt8) : ByteArray := ⟨l.toArray⟩
theorem ofL_data (s : ByteArray) : ofL s.data.toList = s := by cases s; simp [ofL]
theorem ofL_toList (l : List UInt8) : (ofL l).data.toList = l := by simp [ofL]
theorem len_data (s : ByteArray) : s.data.toList.length = s.size := (Lib.size_eq s).symm
theorem data_extract (s : ByteArray) (i j : Nat) : (s.extract i j).data.toList = (s.data.toList.take j).drop i := by
 rw [Lib.extract_data, List.drop_take]
def pcs (s : ByteArray) : List ByteArray := (pcsL s.data.toList).map ofL
def prts (s : ByteArray) : List ByteArray := (pcs s).filter fun p => !decide (p = ⟨#[]⟩)
theorem pcs_none (s : ByteArray) (f : Nat) (hf : f <= s.size) (h : ∀ (j : Nat) (hj : j < s.size), f <= j -> ¬ s[j] = 47) : pcs (s.extract f s.size) = [s.extract f s.size] := by
 unfold pcs
 rw [pcsL_none]
 ·rw [List.map_cons, List.map_nil, ofL_data]
 ·intro c hc
  rw [data_extract] at hc
  obtain ⟨k, hk, e⟩ := List.mem_iff_getElem.1 hc
  simp only [List.getElem_drop, List.getElem_take] at e
  simp only [List.length_drop, List.length_take] at hk
  have h2 : f + k < s.size := by omega
  have := h (f + k) h2 (by omega)
  rw [<- e]
  exact this
theorem pcs_cut (s : ByteArray) (f k : Nat) (hf : f <= k) (hk : k < s.size) (hc : s[k] = 47) (h : ∀ (j : Nat) (hj : j < s.size), f <= j -> j < k -> ¬ s[j] = 47) :
 pcs (s.extract f s.size) = s.extract f k :: pcs (s.extract (k + 1) s.size) := by
 have hl : s.data.toList.length = s.size := len_data s
 have e : (s.extract f s.size).data.toList = (s.extract f k).data.toList ++ 47 :: (s.extract (k + 1) s.size).data.toList := by
  rw [data_extract, data_extract, data_extract, List.take_of_length_le (by omega)]
  apply List.ext_getElem?
  intro i
  by_cases hi : i < k - f
  ·rw [List.getElem?_append_left (by simp; omega)]
   simp only [List.getElem?_drop, List.getElem?_take]
   rw [if_pos (by omega)]
  ·rw [List.getElem?_append_right (by simp; omega)]
   have e2 : ((s.data.toList.take k).drop f).length = k - f := by simp; omega
   rw [e2]
   by_cases hj : i - (k - f) = 0
   ·rw [hj, List.getElem?_cons_zero, List.getElem?_drop, show f + i = k by omega, List.getElem?_eq_getElem (by omega)]
    rw [<- hc]; rfl
   ·obtain ⟨n, hn⟩ : ∃ n, i - (k - f) = n + 1 := ⟨i - (k - f) - 1, by omega⟩
    rw [hn, List.getElem?_cons_succ, List.getElem?_drop, List.getElem?_drop]
    congr 1
    omega
 unfold pcs
 rw [e, pcsL_cut]
 ·rw [List.map_cons, ofL_data]
 ·intro c hc
  rw [data_extract] at hc
  obtain ⟨n, hn, e⟩ := List.mem_iff_getElem.1 hc
  simp only [List.getElem_drop, List.getElem_take] at e
  simp only [List.length_drop, List.length_take] at hn
  have h2 : f + n < s.size := by omega
  rw [<- e]
  exact h (f + n) h2 (by omega) (by omega)
theorem extract_all (s : ByteArray) : s.extract 0 s.size = s := by
 apply eq_of_data
 rw [data_extract, List.drop_zero, List.take_of_length_le (by rw [len_data]; exact Nat.le_refl _)]
theorem pcs_size (s : ByteArray) : ∀ p ∈ pcs s, p.size <= s.size := by
 have key : ∀ l : List UInt8, ∀ p ∈ pcsL l, p.length <= l.length := by
  intro l
  induction l with
  | nil => intro p hp; simp [pcsL] at hp; subst hp; simp
  | cons c l ih =>
    intro p hp
    unfold pcsL at hp
    split at hp
    ·rcases List.mem_cons.1 hp with h | h
     ·subst h; simp
     ·have := ih p h; simp; omega
    ·cases h : pcsL l with
     | nil => exact absurd h (pcsL_ne l)
     | cons q r =>
       rw [h] at hp ih
       rcases List.mem_cons.1 hp with h2 | h2
       ·subst h2; have := ih q (by simp); simp; omega
       ·have := ih p (by simp [h2]); simp; omega
 intro p hp
 obtain ⟨l, hl, rfl⟩ := List.mem_map.1 hp
 have := key _ l hl
 rw [<- len_data (ofL l), ofL_toList]
 rwa [len_data] at this
theorem pcs_length (s : ByteArray) : (pcs s).length <= s.size + 1 := by
 have key : ∀ l : List UInt8, (pcsL l).length <= l.length + 1 := by
  intro l
  induction l with
  | nil => simp [pcsL]
  | cons c l ih =>
    unfold pcsL
    split
    ·simp; omega
    ·split
     ·simp
     ·rename_i q r h; rw [h] at ih; simp at ih ⊢; omega
 have := key s.data.toList
 rw [len_data] at this
 rw [pcs, List.length_map]
 exact this
theorem prts_length (s : ByteArray) : (prts s).length <= s.size + 1 := Nat.le_trans (List.length_filter_le _ _) (pcs_length s)
theorem prts_size (s : ByteArray) : ∀ p ∈ prts s, p.size <= s.size := fun p hp => pcs_size s p (List.mem_filter.1 hp).1
def endS (s : ByteArray) : Bool := decide (0 < s.size ∧ s.data.toList[s.size - 1]? = some 47)
def joinB (d n : ByteArray) : ByteArray := if d = ⟨#[]⟩ then n else if endS d then d ++ n else d ++ slashB ++ n
def absB (s : ByteArray) : Bool := decide (s.data.toList[0]? = some 47)
end Go.Proofs.YtnaenhekjdmlaaaGreatDoor
namespace Go.Proofs.YtnaenhekjdmlaaaGreatDoor
open Go.RowKit
def NoB : Nat -> Prop := fun _ => False
structure Keeps (F : Nat -> Prop) (w w' : World) : Prop where
 os : w'.os = w.os
 tape : w'.tape = w.tape
 output : w'.output = w.output
 size : w.heap.size <= w'.heap.size
 block : ∀ k, k < w.heap.size -> ¬ F k -> w'.heap[k]? = w.heap[k]?
theorem Keeps.refl (F : Nat -> Prop) (w : World) : Keeps F w w := ⟨rfl, rfl, rfl, Nat.le_refl _, fun _ _ _ => rfl⟩
theorem Keeps.trans' {F G H : Nat -> Prop} {a b c : World} (h : Keeps F a b) (k : Keeps G b c) (hF : ∀ g, g < a.heap.size -> F g -> H g) (hG : ∀ g, g < a.heap.size -> G g -> H g) : Keeps H a c :=
 ⟨k.os.trans h.os, k.tape.trans h.tape, k.output.trans h.output, Nat.le_trans h.size k.size,
  fun i hi hn => (k.block i (Nat.lt_of_lt_of_le hi h.size) (fun hg => hn (hG i hi hg))).trans (h.block i hi (fun hf => hn (hF i hi hf)))⟩
theorem Keeps.trans {F : Nat -> Prop} {a b c : World} (h : Keeps F a b) (k : Keeps F b c) : Keeps F a c := h.trans' k (fun _ _ h => h) (fun _ _ h => h)
theorem Keeps.step {F G : Nat -> Prop} {a b c : World} (h : Keeps F a b) (k : Keeps G b c) (hG : ∀ g, G g -> F g ∨ a.heap.size <= g) : Keeps F a c :=
 h.trans' k (fun _ _ h => h) (fun g hg h => (hG g h).elim id (fun h => absurd hg (by omega)))
theorem Keeps.mono {F G : Nat -> Prop} {a b : World} (h : Keeps F a b) (hFG : ∀ g, g < a.heap.size -> F g -> G g) : Keeps G a b :=
 ⟨h.os, h.tape, h.output, h.size, fun i hi hn => h.block i hi (fun hf => hn (hFG i hi hf))⟩
theorem Keeps.of_none {F : Nat -> Prop} {a b : World} (h : Keeps NoB a b) : Keeps F a b := h.mono (fun _ _ h => h.elim)
theorem Keeps.alloc {F : Nat -> Prop} {a w : World} (h : Keeps F a w) (o : Obj) : Keeps F a (w.alloc o) :=
 h.trans ⟨rfl, rfl, rfl, by simp, fun k hk _ => Below.heap_alloc _ _ _ hk⟩
theorem Keeps.drew {F : Nat -> Prop} {a w : World} (h : Keeps F a w) : Keeps F a w.drew := ⟨h.os, h.tape, h.output, h.size, h.block⟩
theorem Keeps.drewN {F : Nat -> Prop} {a w : World} (h : Keeps F a w) (n : Nat) : Keeps F a (w.drewN n) := ⟨h.os, h.tape, h.output, h.size, h.block⟩
theorem Keeps.setCell {F : Nat -> Prop} {a w : World} (h : Keeps F a w) {p : Addr} (hp : F p.block ∨ a.heap.size <= p.block) (u : Value) : Keeps F a (w.setCell p u) :=
 ⟨h.os, h.tape, h.output, by have := h.size; simpa [World.setCell] using this, fun k hk hn => by
   rw [Below.heap_setCell _ _ _ _ (by rcases hp with hp | hp; · intro e; subst e; exact hn hp
                                      ·omega)]; exact h.block k hk hn⟩
theorem Keeps.below {F : Nat -> Prop} {B : Nat} {w w' : World} (h : Keeps F w w') (hB : B <= w.heap.size) (hF : ∀ g, g < B -> ¬ F g) : Below B w w' :=
 ⟨h.os, h.tape, h.output, h.size, fun k hk => h.block k (by omega) (hF k hk)⟩
theorem Keeps.cell {F : Nat -> Prop} {w w' : World} (h : Keeps F w w') {p : Addr} (hp : p.block < w.heap.size) (hF : ¬ F p.block) : w'.cell? p = w.cell? p :=
 World.cell?_of_block (w := w) (h.block p.block hp hF)
theorem Keeps.frozen {F : Nat -> Prop} {w w' : World} (h : Keeps F w w') {p : Addr} (hp : p.block < w.heap.size) (hF : ¬ F p.block) : w'.frozen? p = w.frozen? p :=
 World.frozen?_of_block (w := w) (h.block p.block hp hF)
theorem lt_of_cell {w : World} {a : Addr} {v : Value} (h : w.cell? a = some v) : a.block < w.heap.size := block_lt_of_cell h
theorem lt_of_block {w : World} {g : Nat} {o : Obj} (h : w.heap[g]? = some o) : g < w.heap.size := (Array.getElem?_eq_some_iff.1 h).1
theorem add_lit (g off j : Nat) : (⟨g, off, none⟩ : Addr).add j = ⟨g, off + j, none⟩ := by unfold Addr.add; split <;> simp_all
theorem setCell_self {w : World} {a : Addr} {v : Value} (h : w.cell? a = some v) : w.setCell a v = w := by
 obtain ⟨b, o, s⟩ := a
 have hb := lt_of_cell h
 simp only [World.cell?] at h
 cases w with
 | mk heap tape drawn os output =>
   simp only [World.setCell, World.mk.injEq, and_true]
   apply Array.ext_getElem?
   intro i
   rw [Array.getElem?_modify]
   split
   ·next e =>
    subst e
    cases hh : heap[b]? with
    | none => simp [hh] at h
    | some x =>
      simp only [hh] at h
      cases x <;> simp only [Option.map_some] at h ⊢ <;> try (cases h)
      rename_i c e f
      congr 2
      cases s with
      | some _ => simp at h
      | none =>
        simp only [Option.isSome_none, Bool.false_eq_true, if_false] at h ⊢
        apply Array.ext_getElem?
        intro j
        rw [Array.getElem?_setIfInBounds]
        split
        ·next e => subst e; split
                   ·exact h.symm
                   ·next hn => rw [Array.getElem?_eq_none (by omega)] at h; cases h
        ·rfl
   ·rfl
theorem heap_setCell_congr {w w1 : World} (a : Addr) (v : Value) (h : w1.heap[a.block]? = w.heap[a.block]?) : (w1.setCell a v).heap[a.block]? = (w.setCell a v).heap[a.block]? := by
 simp only [World.setCell, Array.getElem?_modify, if_true, h]
theorem Keeps.setCell2 {F : Nat -> Prop} {w w1 : World} (h : Keeps F w w1) (a : Addr) (v : Value) : Keeps F (w.setCell a v) (w1.setCell a v) :=
 ⟨h.os, h.tape, h.output, by have := h.size; simpa [World.setCell] using this, fun k hk hn => by
   have hk' : k < w.heap.size := by simpa [World.setCell] using hk
   by_cases e : k = a.block
   ·subst e; exact heap_setCell_congr a v (h.block _ hk' hn)
   ·rw [Below.heap_setCell _ _ _ _ e, Below.heap_setCell _ _ _ _ e]; exact h.block k hk' hn⟩
structure Enc (α : Type) where
 enc : α -> List Value
 k : Nat
 pos : 0 < k
 len : ∀ x, (enc x).length = k
 one : ∀ x, ∀ v ∈ enc x, v.oneCell' = true
section
variable {α : Type} (E : Enc α)
theorem Enc.flat_len (l : List α) : (l.flatMap E.enc).length = l.length * E.k := by
 induction l with
 | nil => simp
 | cons a l ih => simp [ih, E.len, Nat.add_mul]; omega
theorem Enc.flat_one (l : List α) : ∀ v ∈ l.flatMap E.enc, v.oneCell' = true := by
 intro v hv
 obtain ⟨x, _, hx⟩ := List.mem_flatMap.1 hv
 exact E.one x v hx
theorem Enc.flat_get (l : List α) (i j : Nat) (hj : j < E.k) : (l.flatMap E.enc)[i * E.k + j]? = (l[i]?).bind fun x => (E.enc x)[j]? := by
 induction l generalizing i with
 | nil => simp
 | cons a l ih =>
   rw [List.flatMap_cons]
   cases i with
   | zero => simp only [Nat.zero_mul, Nat.zero_add]; rw [List.getElem?_append_left (by rw [E.len]; exact hj)]; rfl
   | succ i =>
     rw [List.getElem?_append_right (by rw [E.len, Nat.add_mul]; omega), E.len]
     rw [show (i + 1) * E.k + j - E.k = i * E.k + j by rw [Nat.add_mul]; omega, ih]
     rfl
theorem Enc.flat_take (l : List α) (n : Nat) : (l.take n).flatMap E.enc = (l.flatMap E.enc).take (n * E.k) := by
 induction l generalizing n with
 | nil => simp
 | cons a l ih =>
   cases n with
   | zero => simp
   | succ n =>
     rw [List.take_succ_cons, List.flatMap_cons, List.flatMap_cons, ih, List.take_append, E.len]
     rw [List.take_of_length_le (l := E.enc a) (by rw [E.len, Nat.add_mul]; omega), show (n + 1) * E.k - E.k = n * E.k by rw [Nat.add_mul]; omega]
theorem Enc.flat_drop (l : List α) (n : Nat) : (l.drop n).flatMap E.enc = (l.flatMap E.enc).drop (n * E.k) := by
 induction l generalizing n with
 | nil => simp
 | cons a l ih =>
   cases n with
   | zero => simp
   | succ n =>
     rw [List.drop_succ_cons, List.flatMap_cons, ih, List.drop_append, E.len]
     rw [List.drop_of_length_le (l := E.enc a) (by rw [E.len, Nat.add_mul]; omega), show (n + 1) * E.k - E.k = n * E.k by rw [Nat.add_mul]; omega]
     rfl
structure SlAt (S : Nat -> Prop) (w : World) (p : Option Addr) (c : Nat) (l : List α) : Prop where
 cap : l.length <= c
 max : c <= maxLen
 nilc : p = none -> c = 0
 spot : 0 < c -> ∀ a, p = some a -> a.spot = none
 cells : 0 < l.length -> ∃ g off, p = some ⟨g, off, none⟩ ∧ S g ∧ g < w.heap.size ∧ ∀ j, j < l.length * E.k -> w.cell? ⟨g, off + j, none⟩ = (l.flatMap E.enc)[j]?
def Sl (S : Nat -> Prop) (w : World) (v : Value) (l : List α) : Prop := ∃ p c, v = .slice p l.length c ∧ SlAt E S w p c l
variable {E} {S : Nat -> Prop} {w : World} {p : Option Addr} {c : Nat} {l : List α} {v : Value}
theorem Sl.nil (E : Enc α) (S : Nat -> Prop) (w : World) : Sl E S w (.slice none 0 0) [] :=
 ⟨none, 0, rfl, by simp, by simp, fun _ => rfl, (fun h => by omega), (fun h => by simp at h)⟩
theorem SlAt.keep {F : Nat -> Prop} {w' : World} (h : SlAt E S w p c l) (k : Keeps F w w') (hF : ∀ g, S g -> g < w.heap.size -> ¬ F g) : SlAt E S w' p c l :=
 ⟨h.cap, h.max, h.nilc, h.spot, fun h0 => by
   obtain ⟨g, off, rfl, hS, hg, hc⟩ := h.cells h0
   exact ⟨g, off, rfl, hS, Nat.lt_of_lt_of_le hg k.size, fun j hj => (k.cell hg (hF g hS hg)).trans (hc j hj)⟩⟩
theorem Sl.keep {F : Nat -> Prop} {w' : World} (h : Sl E S w v l) (k : Keeps F w w') (hF : ∀ g, S g -> g < w.heap.size -> ¬ F g) : Sl E S w' v l := by
 obtain ⟨p, c, rfl, h⟩ := h
 exact ⟨p, c, rfl, h.keep k hF⟩
theorem Sl.of (h : SlAt E S w p c l) : Sl E S w (.slice p l.length c) l := ⟨p, c, rfl, h⟩
theorem SlAt.keepS {S' F : Nat -> Prop} {w' : World} (h : SlAt E S w p c l) (k : Keeps F w w') (hF : ∀ g, S g -> g < w.heap.size -> ¬ F g) (hS : ∀ g, S g -> g < w.heap.size -> S' g) : SlAt E S' w' p c l :=
 ⟨h.cap, h.max, h.nilc, h.spot, fun h0 => by
   obtain ⟨g, off, rfl, hSg, hg, hc⟩ := h.cells h0
   exact ⟨g, off, rfl, hS g hSg hg, Nat.lt_of_lt_of_le hg k.size, fun j hj => (k.cell hg (hF g hSg hg)).trans (hc j hj)⟩⟩
theorem Sl.keepS {S' F : Nat -> Prop} {w' : World} (h : Sl E S w v l) (k : Keeps F w w') (hF : ∀ g, S g -> g < w.heap.size -> ¬ F g) (hS : ∀ g, S g -> g < w.heap.size -> S' g) : Sl E S' w' v l := by
 obtain ⟨p, c, rfl, h⟩ := h
 exact ⟨p, c, rfl, h.keepS k hF hS⟩
theorem Sl.keepN {w' : World} (h : Sl E S w v l) (k : Keeps NoB w w') : Sl E S w' v l := h.keep k (fun _ _ _ h => h)
theorem SlAt.keepN {w' : World} (h : SlAt E S w p c l) (k : Keeps NoB w w') : SlAt E S w' p c l := h.keep k (fun _ _ _ h => h)
theorem Sl.mono {S' : Nat -> Prop} (h : Sl E S w v l) (hS : ∀ g, S g -> g < w.heap.size -> S' g) : Sl E S' w v l := by
 obtain ⟨p, c, rfl, h⟩ := h
 refine ⟨p, c, rfl, h.cap, h.max, h.nilc, h.spot, fun h0 => ?_⟩
 obtain ⟨g, off, rfl, hSg, hg, hc⟩ := h.cells h0
 exact ⟨g, off, rfl, hS g hSg hg, hg, hc⟩
theorem SlAt.at (h : SlAt E S w p c l) {i : Nat} {x : α} (hi : l[i]? = some x) :
 ∃ g off, p = some ⟨g, off, none⟩ ∧ S g ∧ g < w.heap.size ∧ ∀ j u, (E.enc x)[j]? = some u -> w.cell? ⟨g, off + (i * E.k + j), none⟩ = some u := by
 obtain ⟨hil, hix⟩ := List.getElem?_eq_some_iff.1 hi
 obtain ⟨g, off, hp, hS, hg, hc⟩ := h.cells (by omega)
 refine ⟨g, off, hp, hS, hg, fun j u hu => ?_⟩
 have hj : j < E.k := by have := (List.getElem?_eq_some_iff.1 hu).1; rw [E.len] at this; exact this
 have hlt : i * E.k + j < l.length * E.k := by
  have : (i + 1) * E.k <= l.length * E.k := Nat.mul_le_mul_right _ hil
  rw [Nat.add_mul] at this; omega
 rw [hc _ hlt, E.flat_get l i j hj, hi]
 exact hu
def subAt (k : Nat) (p : Option Addr) (c i : Nat) : Option Addr := if c = i then p else p.map (·.add (i * k))
theorem SlAt.sub (h : SlAt E S w p c l) (i k : Nat) (hik : i <= k) (hk : k <= l.length) : SlAt E S w (subAt E.k p c i) (c - i) ((l.take k).drop i) := by
 have hcap := h.cap
 have hmax := h.max
 unfold subAt
 by_cases hci : c = i
 ·rw [if_pos hci]
  exact ⟨by simp; omega, by omega, fun _ => by omega, (fun h0 => by omega), fun h0 => by simp at h0; omega⟩
 ·rw [if_neg hci]
  cases p with
  | none => exact absurd (h.nilc rfl) (by omega)
  | some a =>
    have hsp := h.spot (by omega) a rfl
    obtain ⟨g, off, sp⟩ := a
    subst hsp
    simp only [Option.map_some, add_lit]
    refine ⟨by simp; omega, by omega, (fun h => by cases h), (fun _ a ha => by cases ha; rfl), fun h0 => ?_⟩
    obtain ⟨g', off', hp, hS, hg, hc⟩ := h.cells (by simp at h0; omega)
    cases hp
    refine ⟨g, off + i * E.k, rfl, hS, hg, fun j hj => ?_⟩
    have hkl : ((l.take k).drop i).length = k - i := by simp; omega
    rw [hkl] at hj
    rw [Nat.add_assoc, hc _ (by
     have : (k - i + i) * E.k <= l.length * E.k := Nat.mul_le_mul_right _ (by omega)
     rw [Nat.add_mul] at this; omega)]
    rw [E.flat_drop, E.flat_take, List.getElem?_drop, List.getElem?_take]
    rw [if_pos (by
     have : (k - i + i) * E.k <= k * E.k := Nat.mul_le_mul_right _ (by omega)
     rw [Nat.add_mul] at this; omega)]
def Own (E : Enc α) (e : TypeId) (S : Nat -> Prop) (w : World) (v : Value) (l : List α) : Prop :=
 w.ownsRow 0 e E.k v l.length (l.flatMap E.enc) ∧ ∀ g, v.ownBlock = some g -> S g
theorem Own.nil (E : Enc α) (e : TypeId) (S : Nat -> Prop) (w : World) : Own E e S w (.slice none 0 0) [] :=
 ⟨by simpa using World.ownsRow_nil w 0 e E.k, fun g h => by simp [Value.ownBlock] at h⟩
variable {e : TypeId}
theorem Own.lt (h : Own E e S w v l) : ∀ g, v.ownBlock = some g -> g < w.heap.size := fun g hg => (h.1.lt g hg).2
theorem Own.keep {F : Nat -> Prop} {w' : World} (h : Own E e S w v l) (k : Keeps F w w') (hF : ∀ g, v.ownBlock = some g -> ¬ F g) : Own E e S w' v l := by
 refine ⟨⟨h.1.1, ?_⟩, h.2⟩
 rcases h.1.2 with hn | ⟨g, cap, cur, hv, hg, hh, r⟩
 ·exact .inl hn
 ·subst hv
  exact .inr ⟨g, cap, cur, rfl, hg, (k.block g (lt_of_block hh) (hF g rfl)).trans hh, r⟩
theorem Own.mono {S' : Nat -> Prop} (h : Own E e S w v l) (hS : ∀ g, v.ownBlock = some g -> S g -> S' g) : Own E e S' w v l :=
 ⟨h.1, fun g hg => hS g hg (h.2 g hg)⟩
theorem Own.sl (h : Own E e S w v l) : Sl E S w v l := by
 rcases h.1.2 with ⟨rfl, hn⟩ | ⟨g, cap, cur, rfl, _, hg, hcap, hmax, hsz, htk⟩
 ·have : l = [] := List.eq_nil_of_length_eq_zero hn
  subst this
  exact Sl.nil E S w
 ·refine ⟨_, cap, rfl, hcap, hmax, (fun h => by cases h), (fun _ a ha => by cases ha; rfl), fun _ => ⟨g, 0, rfl, h.2 g rfl, lt_of_block hg, fun j hj => ?_⟩⟩
  rw [cell_of_row w g _ cur e (0, 0) hg, <- htk, List.getElem?_take, if_pos hj, Nat.zero_add]
  simp
theorem Own.cases (h : Own E e S w v l) : (v = .slice none 0 0 ∧ l = []) ∨
 ∃ g cap cur, v = .slice (some ⟨g, 0, none⟩) l.length cap ∧ S g ∧ w.heap[g]? = some (.cells cur e (0, 0)) ∧ l.length <= cap ∧ cap <= maxLen ∧ cur.size = cap * E.k ∧ cur.toList.take (l.length * E.k) = l.flatMap E.enc := by
 rcases h.1.2 with ⟨rfl, hn⟩ | ⟨g, cap, cur, rfl, _, hg, hcap, hmax, hsz, htk⟩
 ·exact .inl ⟨rfl, List.eq_nil_of_length_eq_zero hn⟩
 ·exact .inr ⟨g, cap, cur, rfl, h.2 g rfl, hg, hcap, hmax, hsz, htk⟩
theorem Own.row (h : Own E e S w v l) (h0 : 0 < l.length) :
 ∃ g cap cur, v = .slice (some ⟨g, 0, none⟩) l.length cap ∧ S g ∧ w.heap[g]? = some (.cells cur e (0, 0)) ∧ l.length <= cap ∧ cap <= maxLen ∧ cur.size = cap * E.k ∧ cur.toList.take (l.length * E.k) = l.flatMap E.enc := by
 rcases h.cases with ⟨_, rfl⟩ | h
 ·simp at h0
 ·exact h
theorem Own.at (h : Own E e S w (.slice p l.length c) l) : SlAt E S w p c l := by
 obtain ⟨p', c', hpc, hs⟩ := h.sl
 cases hpc
 exact hs
theorem Own.mk {g cap : Nat} {cur : Array Value} (hS : S g) (hg : w.heap[g]? = some (.cells cur e (0, 0))) (hcap : l.length <= cap) (hmax : cap <= maxLen) (hsz : cur.size = cap * E.k)
 (htk : cur.toList.take (l.length * E.k) = l.flatMap E.enc) : Own E e S w (.slice (some ⟨g, 0, none⟩) l.length cap) l :=
 ⟨⟨E.flat_len l, .inr ⟨g, cap, cur, rfl, Nat.zero_le _, hg, hcap, hmax, hsz, htk⟩⟩, fun g' h => by simp [Value.ownBlock] at h; subst h; exact hS⟩
end
def encStr : Enc ByteArray where
 enc := fun s => [.string s]
 k := 1
 pos := by decide
 len := fun _ => rfl
 one := fun x v hv => by simp at hv; subst hv; rfl
theorem SlAt.str {S : Nat -> Prop} {w : World} {p : Option Addr} {c : Nat} {l : List ByteArray} (h : SlAt encStr S w p c l) {i : Nat} {x : ByteArray} (hi : l[i]? = some x) :
 ∃ g off, p = some ⟨g, off, none⟩ ∧ S g ∧ g < w.heap.size ∧ w.cell? ⟨g, off + i, none⟩ = some (.string x) := by
 obtain ⟨g, off, hp, hS, hg, hc⟩ := h.at hi
 refine ⟨g, off, hp, hS, hg, ?_⟩
 have := hc 0 _ rfl
 rwa [Nat.add_zero, show encStr.k = 1 from rfl, Nat.mul_one] at this
structure ElemT {α : Type} (P : Program) (E : Enc α) (t e : TypeId) (z : α) (bytes : Nat) : Prop where
 under : P.underlying t = some (.slice e)
 info : ∃ i : TypeInfo, P.info? e = some i ∧ i.size = E.k ∧ i.bytes = bytes ∧ ∃ zv, i.zero = some zv ∧ zv.cells.toList = E.enc z
section
variable {α : Type} {E : Enc α} {P : Program} {t e : TypeId} {z : α} {bytes : Nat} {S : Nat -> Prop} {w : World}
theorem zeroCells_flat (zc : Array Value) (n : Nat) (hz : zc.toList = E.enc z) : (Builtin.zeroCells zc n).toList = (List.replicate n z).flatMap E.enc := by
 have hs : zc.size = E.k := by rw [<- Array.length_toList, hz, E.len]
 apply List.ext_getElem?
 intro j
 have hk := E.pos
 by_cases hj : j < n * E.k
 ·have hd := Nat.div_add_mod j E.k
  have hm := Nat.mod_lt j hk
  have hq : j / E.k < n := Nat.div_lt_of_lt_mul (by rw [Nat.mul_comm]; exact hj)
  have e1 : (List.replicate n z).flatMap E.enc = (List.replicate n z).flatMap E.enc := rfl
  rw [show j = (j / E.k) * E.k + j % E.k by rw [Nat.mul_comm]; omega, E.flat_get _ _ _ hm]
  simp only [List.getElem?_replicate, hq, if_true, Option.bind_some]
  simp only [Builtin.zeroCells, Array.toList_map, Array.toList_range, List.getElem?_map, hs]
  rw [List.getElem?_range (by rw [Nat.mul_comm]; omega)]
  simp only [Option.map_some]
  have hmm : (j / E.k * E.k + j % E.k) % E.k = j % E.k := by rw [Nat.mul_comm, Nat.mul_add_mod]; exact Nat.mod_eq_of_lt hm
  rw [hmm, <- hz, Array.getElem?_toList, getElem!_pos zc _ (by rw [hs]; exact hm), Array.getElem?_eq_getElem (by rw [hs]; exact hm)]
 ·rw [List.getElem?_eq_none (by simp [Builtin.zeroCells, hs]; omega), List.getElem?_eq_none (by rw [E.flat_len]; simp; omega)]
theorem own_fresh (l spare : List α) (hS : S w.heap.size) (hmax : l.length + spare.length <= maxLen) (cs : Array Value) (hcs : cs.toList = (l ++ spare).flatMap E.enc) :
 Own E e S (w.alloc (.cells cs e)) (.slice (some ⟨w.heap.size, 0, none⟩) l.length (l.length + spare.length)) l := by
 refine Own.mk (cur := cs) hS (heap_alloc_new w _) (by omega) hmax ?_ ?_
 ·rw [<- Array.length_toList, hcs, E.flat_len]; simp
 ·rw [hcs, <- E.flat_take]; simp
theorem own_lit (l : List α) (cs : Array Value) (hcs : cs.toList = l.flatMap E.enc) (n : Nat) (hn : n = l.length) (hS : S w.heap.size) (hm : n <= maxLen) :
 Own E e S (w.alloc (.cells cs e)) (.slice (some ⟨w.heap.size, 0, none⟩) n n) l := by
 subst hn
 have := own_fresh (E := E) (e := e) (S := S) (w := w) l [] hS (by simpa using hm) cs (by simpa using hcs)
 simpa using this
theorem run_append (T : ElemT P E t e z bytes) (ty : TypeId) {v x : Value} {l m : List α} {S2 : Nat -> Prop} (ho : Own E e S w v l) (hx : Sl E S2 w x m)
 (hS : S w.heap.size) (h63 : l.length + m.length <= maxLen) (hb : (l.length + m.length) * bytes <= 140737488355328) :
 ∃ v' w', (Builtin.append_ #[t, t] ty #[v, x]).run P w = .ok v' w' ∧ Own E e S w' v' (l ++ m) ∧ Keeps (fun g => v.ownBlock = some g) w w' ∧
   (∀ g, v'.ownBlock = some g -> v.ownBlock = some g ∨ w.heap.size <= g) := by
 obtain ⟨i, hi, hik, hib, zv, hz, hzc⟩ := T.info
 obtain ⟨p, c, rfl, hm⟩ := hx
 have h63' : ((l.length + m.length : Nat) : Int) <= 9223372036854775807 := by simp only [maxLen] at h63; omega
 have hKr : ∀ cs : Array Value, Keeps (fun g => v.ownBlock = some g) w (w.drew.alloc (.cells cs e)) := fun cs => ((Keeps.refl _ w).drew).alloc _
 -- the source's cells, at once and behind a draw
 have hsrc : ∀ w', (∀ a, w'.cell? a = w.cell? a) -> (Builtin.firstCells i.size m.length (.slice p m.length c)).run P w' = .ok (m.flatMap E.enc).toArray w' := by
  intro w' hw
  by_cases h0 : m.length = 0
  ·have : m = [] := List.eq_nil_of_length_eq_zero h0
   subst this
   cases p with
   | none => exact run_firstCells_none _ _ _ _ _
   | some a => exact run_firstCells_some w' i.size 0 a 0 c [] (by simp) (fun j v h => by simp at h)
  ·obtain ⟨g, off, rfl, _, hg, hc⟩ := hm.cells (by omega)
   refine run_firstCells_some w' i.size m.length _ _ _ _ (by rw [E.flat_len, hik]) (fun j u hu => ?_)
   rw [add_lit, hw, hc j (by have := (List.getElem?_eq_some_iff.1 hu).1; rw [E.flat_len] at this; exact this)]
   exact hu
 have hSrc : Src P i.size t (.slice p m.length c) m.length (m.flatMap E.enc) w :=
  ⟨.inl ⟨e, T.under⟩, fun _ => rfl, hsrc w (fun _ => rfl), hsrc w.drew (fun _ => rfl), by rw [E.flat_len, hik], E.flat_one m⟩
 have hgrow : ∀ base sLen sCap, l.length = sLen -> sCap < sLen + m.length ->
  (Builtin.firstCells i.size sLen (.slice base sLen sCap)).run P w.drew = .ok (l.flatMap E.enc).toArray w.drew ->
  ∃ v' w', (Builtin.append_ #[t, t] ty #[.slice base sLen sCap, .slice p m.length c]).run P w = .ok v' w' ∧ Own E e S w' v' (l ++ m) ∧ Keeps (fun g => v.ownBlock = some g) w w' ∧
    (∀ g, v'.ownBlock = some g -> v.ownBlock = some g ∨ w.heap.size <= g) := by
  intro base sLen sCap hl hlt hold
  subst hl
  have hr := run_append_grow_src (P := P) w t t ty e i zv T.under hi hz base l.length sCap (l.flatMap E.enc) hold _ m.length _ hSrc hlt h63' (growslice_fits hlt (by rw [hib]; exact hb))
  have hge := grownCap_ge w (l.length + m.length) sCap e
  have hle := grownCap_le_maxLen w (l.length + m.length) sCap e h63
  refine ⟨_, _, hr, ?_, hKr _, fun g hg => by simp [Value.ownBlock] at hg; right; omega⟩
  have hfr := own_fresh (E := E) (e := e) (S := S) (w := w.drew) (l ++ m) (List.replicate (grownCap w (l.length + m.length) sCap e - (l.length + m.length)) z) hS
   (by simp; omega) ((l.flatMap E.enc ++ m.flatMap E.enc).toArray ++ Builtin.zeroCells zv.cells (grownCap w (l.length + m.length) sCap e - (l.length + m.length)))
   (by simp [zeroCells_flat (E := E) zv.cells _ hzc])
  rw [show (l ++ m).length + (List.replicate (grownCap w (l.length + m.length) sCap e - (l.length + m.length)) z).length = grownCap w (l.length + m.length) sCap e by simp; omega] at hfr
  rw [show (l ++ m).length = l.length + m.length by simp] at hfr
  exact hfr
 rcases ho.cases with ⟨rfl, rfl⟩ | ⟨g, cap, cur, rfl, hSg, hg, hcap, hmax, hsz, htk⟩
 ·by_cases h0 : m.length = 0
  ·have : m = [] := List.eq_nil_of_length_eq_zero h0
   subst this
   refine ⟨.slice none 0 0, w, ?_, Own.nil E e S w, Keeps.refl _ w, fun g hg => .inl hg⟩
   have := hsrc w (fun _ => rfl)
   simp only [List.length_nil] at this ⊢
   simp [Builtin.append_, run_underlying T.under, sizeOf, typeInfo, hi, Builtin.lenOf, this]
  ·exact hgrow none 0 0 rfl (by simp; omega) (run_firstCells_none _ _ _ _ _)
 ·by_cases hroom : l.length + m.length <= cap
  ·have hr := run_append_room_src (P := P) w t t ty e i T.under hi g 0 l.length cap _ m.length (m.flatMap E.enc) hSrc hroom
    (fun j hj => by
      rw [E.flat_len] at hj
      have : (l.length + m.length) * E.k <= cap * E.k := Nat.mul_le_mul_right _ hroom
      rw [Nat.add_mul] at this
      rw [cell_of_row w g _ cur e (0, 0) hg, Array.getElem?_eq_getElem (by rw [hik, hsz]; omega)]; rfl)
    (fun j _ => frozen_of_row w g _ cur e hg)
   have hfit : l.length * E.k + (m.flatMap E.enc).length <= cur.size := by
    have : (l.length + m.length) * E.k <= cap * E.k := Nat.mul_le_mul_right _ hroom
    rw [Nat.add_mul] at this; rw [E.flat_len, hsz]; omega
   have hst1 := run_storeCells_at P g (l.length * E.k) e (m.flatMap E.enc) 0 cur w hg (by simpa using hfit) (E.flat_one m)
   have hst2 := run_storeCells_cells (P := P) g (l.length * E.k) (m.flatMap E.enc) 0 w
    (fun j hj => by rw [cell_of_row w g _ cur e (0, 0) hg, Array.getElem?_eq_getElem (by omega)]; rfl) (fun j _ => frozen_of_row w g _ cur e hg) (E.flat_one m)
   have hw : w.setCells g (0 + l.length * i.size) (m.flatMap E.enc) = w.setRow g (cur.toList.take (l.length * E.k) ++ m.flatMap E.enc ++ cur.toList.drop (l.length * E.k + (m.flatMap E.enc).length)).toArray := by
    rw [hik, Nat.zero_add]
    rw [hst2] at hst1
    simp only [Nat.add_zero] at hst1
    injection hst1
   rw [hw] at hr
   refine ⟨_, _, hr, ?_, ⟨rfl, rfl, rfl, by simp, fun k _ hk => setRow_other w g k _ (fun e => hk (by simp [Value.ownBlock, e]))⟩, fun g' hg' => .inl hg'⟩
   rw [show l.length + m.length = (l ++ m).length by simp]
   refine Own.mk hSg (setRow_heap w g cur _ e _ hg) (by simpa using hroom) hmax ?_ ?_
   ·have hL : cur.toList.length = cap * E.k := by rw [Array.length_toList]; exact hsz
    rw [List.size_toArray, List.length_append, List.length_append, List.length_take, List.length_drop]; omega
   ·rw [htk, <- E.flat_len, List.flatMap_append]
    simp only [List.append_assoc]
    rw [<- List.append_assoc]
    exact List.take_left
  ·refine hgrow _ _ _ rfl (by omega) (run_firstCells_some w.drew i.size l.length ⟨g, 0, none⟩ l.length cap _ (by rw [E.flat_len, hik]) (fun j u hu => ?_))
   rw [add_lit, World.cell?_drew, cell_of_row w g _ cur e (0, 0) hg, Nat.zero_add, <- hu, <- htk, List.getElem?_take, if_pos (by have := (List.getElem?_eq_some_iff.1 hu).1; rw [E.flat_len] at this; exact this)]
   simp
end
theorem run_copyK {α : Type} {E : Enc α} {P : Program} {e : TypeId} {i : TypeInfo} {w : World} (dT sT ty : TypeId) (hu : P.underlying dT = some (.slice e)) (hi : P.info? e = some i) (hik : i.size = E.k)
 (g o dLen dCap : Nat) (cur : Array Value) (t : TypeId) (hg : w.heap[g]? = some (.cells cur t (0, 0))) {S : Nat -> Prop} {p : Option Addr} {n c c' : Nat} {m : List α} (hn : m.length = Nat.min n dLen) (hs : SlAt E S w p c' m)
 (hfit : o + m.length * E.k <= cur.size) :
 (Builtin.copy_ #[dT, sT] ty #[.slice (some ⟨g, o, none⟩) dLen dCap, .slice p n c]).run P w =
   .ok (goInt m.length) (w.setRow g (cur.toList.take o ++ m.flatMap E.enc ++ cur.toList.drop (o + m.length * E.k)).toArray) := by
 have hlen := E.flat_len m
 have hst := run_storeCells_at P g o t (m.flatMap E.enc) 0 cur w hg (by rw [hlen]; simpa using hfit) (E.flat_one _)
 have hf : (Builtin.firstCells i.size m.length (.slice p n c)).run P w = .ok (m.flatMap E.enc).toArray w := by
  by_cases h0 : m.length = 0
  ·have : m = [] := List.eq_nil_of_length_eq_zero h0
   subst this
   cases p with
   | none => exact run_firstCells_none _ _ _ _ _
   | some a => exact run_firstCells_some w i.size 0 a _ c [] (by simp) (fun j v h => by simp at h)
  ·obtain ⟨g', off, rfl, _, _, hc⟩ := hs.cells (Nat.pos_of_ne_zero h0)
   refine run_firstCells_some w i.size _ _ _ _ _ (by rw [hlen, hik]) (fun j u hu => ?_)
   have hj := (List.getElem?_eq_some_iff.1 hu).1
   rw [hlen] at hj
   rw [add_lit, hc j hj, <- hu]
 simp only [Nat.add_zero] at hst
 rw [hlen] at hst
 simp [Builtin.copy_, run_underlying hu, Builtin.lenOf, sizeOf, typeInfo, hi, <- hn, hf, hst]
theorem wpl_copy {α : Type} {E : Enc α} {P : Program} {e : TypeId} {i : TypeInfo} {w : World} {ops : Array Oper} {Q : Exit -> Act -> World -> Prop} {rest : List Oper} {op : Oper} {a : Act}
 (hgd : op.guard = none) (d s : Operand) (dT sT : TypeId) (ho : op.op = .call { callee := .builtin .copy, args := #[d, s], argTypes := #[dT, sT] })
 (hu : P.underlying dT = some (.slice e)) (hi : P.info? e = some i) (hik : i.size = E.k)
 (g o dLen dCap : Nat) (hd : a.eval d = .slice (some ⟨g, o, none⟩) dLen dCap) (cur : Array Value) (t : TypeId) (hg : w.heap[g]? = some (.cells cur t (0, 0)))
 {S : Nat -> Prop} {p : Option Addr} {c c' n : Nat} {m : List α} (hs : a.eval s = .slice p n c) (hm : SlAt E S w p c' m) (hn : m.length = Nat.min n dLen) (hfit : o + m.length * E.k <= cur.size)
 (h : wpList P ops Q rest (a.put op.dst (goInt m.length)) (w.setRow g (cur.toList.take o ++ (m.flatMap E.enc ++ cur.toList.drop (o + m.length * E.k))).toArray)) :
 wpList P ops Q (op :: rest) a w := by
 refine wpList_plain hgd fun K hK => ?_
 have hrun := run_copyK (E := E) (P := P) dT sT op.type hu hi hik g o dLen dCap cur t hg (c := c) hn hm hfit
 unfold Oper.wp
 simp [execOp, ho, resolve, invoke, builtin, hd, hs, hrun, Result.andThen]
 exact hK _ _ h
theorem run_append_inplace {α : Type} {E : Enc α} {P : Program} {t e : TypeId} {z : α} {bytes : Nat} {w : World} (T : ElemT P E t e z bytes) (ty : TypeId) (g n c : Nat) (cur : Array Value)
 (hg : w.heap[g]? = some (.cells cur e (0, 0))) (hcs : cur.size = c * E.k) {S : Nat -> Prop} {p : Option Addr} {c' : Nat} {m : List α} (hm : SlAt E S w p c' m) (hroom : n + m.length <= c) :
 (Builtin.append_ #[t, t] ty #[.slice (some ⟨g, 0, none⟩) n c, .slice p m.length c']).run P w =
   .ok (.slice (some ⟨g, 0, none⟩) (n + m.length) c) (w.setRow g (cur.toList.take (n * E.k) ++ m.flatMap E.enc ++ cur.toList.drop (n * E.k + m.length * E.k)).toArray) := by
 obtain ⟨i, hi, hik, hib, zv, hz, hzc⟩ := T.info
 have hfl := E.flat_len m
 have hsrc : ∀ w', (∀ a, w'.cell? a = w.cell? a) -> (Builtin.firstCells i.size m.length (.slice p m.length c')).run P w' = .ok (m.flatMap E.enc).toArray w' := by
  intro w' hw
  by_cases h0 : m.length = 0
  ·have : m = [] := List.eq_nil_of_length_eq_zero h0
   subst this
   cases p with
   | none => exact run_firstCells_none _ _ _ _ _
   | some a => exact run_firstCells_some w' i.size 0 a 0 c' [] (by simp) (fun j v h => by simp at h)
  ·obtain ⟨g, off, rfl, _, hg, hc⟩ := hm.cells (by omega)
   refine run_firstCells_some w' i.size m.length _ _ _ _ (by rw [hfl, hik]) (fun j u hu => ?_)
   rw [add_lit, hw, hc j (by have := (List.getElem?_eq_some_iff.1 hu).1; rw [hfl] at this; exact this)]
   exact hu
 have hSrc : Src P i.size t (.slice p m.length c') m.length (m.flatMap E.enc) w :=
  ⟨.inl ⟨e, T.under⟩, fun _ => rfl, hsrc w (fun _ => rfl), hsrc w.drew (fun _ => rfl), by rw [hfl, hik], E.flat_one m⟩
 have hfit : n * E.k + m.length * E.k <= c * E.k := by rw [<- Nat.add_mul]; exact Nat.mul_le_mul_right _ hroom
 have hr := run_append_room_src (P := P) w t t ty e i T.under hi g 0 n c _ m.length (m.flatMap E.enc) hSrc hroom
  (fun j hj => by
    rw [hfl] at hj
    rw [cell_of_row w g _ cur e (0, 0) hg, Array.getElem?_eq_getElem (by rw [hik, hcs]; omega)]; rfl)
  (fun j _ => frozen_of_row w g _ cur e hg)
 have hst1 := run_storeCells_at P g (n * E.k) e (m.flatMap E.enc) 0 cur w hg (by rw [hfl, hcs]; simpa using hfit) (E.flat_one m)
 have hst2 := run_storeCells_cells (P := P) g (n * E.k) (m.flatMap E.enc) 0 w
  (fun j hj => by rw [hfl] at hj; rw [cell_of_row w g _ cur e (0, 0) hg, Array.getElem?_eq_getElem (by omega)]; rfl) (fun j _ => frozen_of_row w g _ cur e hg) (E.flat_one m)
 rw [hst2] at hst1
 simp only [Nat.add_zero] at hst1
 rw [hfl] at hst1
 rw [hr, hik, Nat.zero_add]
 injection hst1 with _ h
 rw [h]
theorem run_clear {α : Type} {E : Enc α} {P : Program} {t e : TypeId} {z : α} {bytes : Nat} {w : World} (T : ElemT P E t e z bytes) (ty : TypeId) (g o n c : Nat) (cur : Array Value)
 (hg : w.heap[g]? = some (.cells cur e (0, 0))) (hfit : o + n * E.k <= cur.size) (hn : 0 < n) :
 (Builtin.clear_ #[t] ty #[.slice (some ⟨g, o, none⟩) n c]).run P w =
   .ok (.tuple #[]) (w.setRow g (cur.toList.take o ++ (List.replicate n z).flatMap E.enc ++ cur.toList.drop (o + n * E.k)).toArray) := by
 obtain ⟨i, hi, hik, hib, zv, hz, hzc⟩ := T.info
 have hfl : ((List.replicate n z).flatMap E.enc).length = n * E.k := by rw [E.flat_len]; simp
 have hst := run_storeCells_at P g o e ((List.replicate n z).flatMap E.enc) 0 cur w hg (by rw [hfl]; simpa using hfit) (E.flat_one _)
 simp only [Nat.add_zero] at hst
 rw [hfl] at hst
 have hzl := zeroCells_flat (E := E) zv.cells n hzc
 cases n with
 | zero => omega
 | succ n =>
   simp only [Builtin.clear_, run_underlying T.under, Sem.run_bind, Sem.run_pure, Result.andThen, List.getElem?_toArray, List.getElem?_cons_zero]
   simp [zeroValue, typeInfo, hi, hz, Sem.run_bind, Result.andThen, hzl, hst]
theorem wpl_clear {P : Program} {w : World} {ops : Array Oper} {Q : Exit -> Act -> World -> Prop} {rest : List Oper} {o : Oper} {a : Act} (hgd : o.guard = none) (s : Operand) (t : TypeId)
 (ho : o.op = .call { callee := .builtin .clear, args := #[s], argTypes := #[t] }) (vs : Value) (hvs : a.eval s = vs) (v' : Value) (w' : World)
 (hr : (Builtin.clear_ #[t] o.type #[vs]).run P w = .ok v' w') (h : wpList P ops Q rest (a.put o.dst v') w') : wpList P ops Q (o :: rest) a w := by
 refine wpList_plain hgd fun K hK => ?_
 unfold Oper.wp execOp
 simp only [ho, resolve, invoke, builtin, Sem.run_bind, Sem.run_pure, Result.andThen_ok, List.map_toArray, List.map_cons, List.map_nil, hvs, hr]
 exact hK _ _ h
theorem splice_two {β : Type} (C A V B C2 C3 : List β) (hA : C.take A.length = A) (hl : A.length + V.length + B.length <= C.length)
 (h2 : C2 = C.take A.length ++ (V ++ C.drop (A.length + V.length))) (h3 : C3 = C2.take (A.length + V.length) ++ (B ++ C2.drop (A.length + V.length + B.length))) :
 C3.take (A.length + V.length + B.length) = A ++ (V ++ B) ∧ C3.length = C.length := by
 rw [hA] at h2
 have h2l : C2.length = C.length := by rw [h2]; simp; omega
 have e : C2.take (A.length + V.length) = A ++ V := by
  rw [h2, <- List.append_assoc, <- List.length_append]; exact List.take_left
 rw [e] at h3
 refine ⟨?_, by rw [h3]; simp; omega⟩
 rw [h3, <- List.append_assoc, <- List.append_assoc, <- List.length_append, <- List.length_append]
 exact List.take_left
theorem splice_back {β : Type} (C A V B C2 C3 : List β) (hA : C.take A.length = A) (hl : A.length + V.length + B.length <= C.length)
 (h2 : C2 = C.take (A.length + V.length) ++ (B ++ C.drop (A.length + V.length + B.length))) (h3 : C3 = C2.take A.length ++ (V ++ C2.drop (A.length + V.length))) :
 C3.take (A.length + V.length + B.length) = A ++ (V ++ B) ∧ C3.length = C.length := by
 have h2l : C2.length = C.length := by rw [h2]; simp; omega
 have hAV : (C.take (A.length + V.length)).length = A.length + V.length := by simp; omega
 have e : C2.take A.length = A := by
  rw [h2, List.take_append_of_le_length (by rw [hAV]; omega), List.take_take, Nat.min_eq_left (by omega), hA]
 have e2 : C2.drop (A.length + V.length) = B ++ C.drop (A.length + V.length + B.length) := by
  rw [h2, <- hAV]; rw [hAV]; conv => lhs; arg 1; rw [<- hAV]
  exact List.drop_left
 rw [e, e2] at h3
 refine ⟨?_, by rw [h3]; simp; omega⟩
 rw [h3, <- List.append_assoc, <- List.append_assoc, <- List.append_assoc, <- List.length_append, <- List.length_append]
 exact List.take_left
theorem Keeps.setRow {F : Nat -> Prop} {a w : World} (h : Keeps F a w) {g : Nat} (hg : F g ∨ a.heap.size <= g) (cs : Array Value) : Keeps F a (w.setRow g cs) :=
 ⟨h.os, h.tape, h.output, by have := h.size; simpa using this, fun k hk hn => by
   rw [setRow_other w g k cs (by rcases hg with hg | hg; · intro e; subst e; exact hn hg
                                 ·omega)]; exact h.block k hk hn⟩
theorem run_slice_l {P : Program} (t e : TypeId) (size : Nat) (ht : P.underlying t = some (.slice e)) (hz : (P.info? e).map (·.size) = some size) (p : Option Addr) (n c i : Nat) (h1 : i <= n) (w : World) (hc : n <= 9223372036854775807) :
 (Instr.slice t (.slice p n c) (some (.int .i64 i)) none none).run P w = .ok (.slice (subAt size p c i) (n - i) (c - i)) w := by
 cases hi : P.info? e with
 | none => rw [hi] at hz; cases hz
 | some inf =>
   rw [hi] at hz
   have hs : inf.size = size := by simpa using hz
   simp [Instr.slice, Instr.sliceBounds, Instr.sliceBound, asIntOf, run_underlying ht, sizeOf, typeInfo, hi, hs, subAt, h1]
theorem run_slice_h {P : Program} (t e : TypeId) (ht : P.underlying t = some (.slice e)) (hz : ((P.info? e).map (·.size)).isSome = true) (g off n c k : Nat) (h1 : k <= c) (w : World) (hc : c <= 9223372036854775807) :
 (Instr.slice t (.slice (some ⟨g, off, none⟩) n c) none (some (.int .i64 k)) none).run P w = .ok (.slice (some ⟨g, off, none⟩) k c) w := by
 cases hi : P.info? e with
 | none => rw [hi] at hz; cases hz
 | some inf => simp [Instr.slice, Instr.sliceBounds, Instr.sliceBound, asIntOf, run_underlying ht, sizeOf, typeInfo, hi, h1, add_lit]
theorem wp_scope_goto {P : Program} {a : Act} {w : World} {Q : Exit -> Act -> World -> Prop} {c r : Code} (l : Nat) (J : Act -> World -> Prop) (μ : Act -> World -> Nat) (hf : findLabel c l = some (Code.skip.seq r))
 (first : (∀ a w, J a w -> r.wp P (Exit.jump l J Q) a w) -> c.wp P (Exit.jump l J Q) a w)
 (pass : ∀ a w, J a w -> r.wp P (Exit.jump l (fun a' w' => J a' w' ∧ μ a' w' < μ a w) Q) a w) : (Code.scope c).wp P Q a w := by
 refine wp_scope_jumps l J μ hf (first fun a w hJ => ?_) (fun a w hJ => wp_seq (wp_skip ?_))
 ·show r.wp P (Exit.jump l J Q) a w
  refine wp_mono (pass a w hJ) fun e a w h => ?_
  cases e <;> first | exact h | exact ⟨h.1, h.2.1⟩
 ·exact pass a w hJ
theorem wpl_append {α : Type} {E : Enc α} {P : Program} {t e : TypeId} {z : α} {bytes : Nat} {S : Nat -> Prop} {w : World} {ops : Array Oper} {Q : Exit -> Act -> World -> Prop} {rest : List Oper} {o : Oper} {a : Act}
 (hgd : o.guard = none) (s x : Operand) (ho : o.op = .call { callee := .builtin .append, args := #[s, x], argTypes := #[t, t] }) (T : ElemT P E t e z bytes)
 {v xv : Value} {l m : List α} {S2 : Nat -> Prop} (hown : Own E e S w v l) (hsl : Sl E S2 w xv m) (hs : a.eval s = v) (hx : a.eval x = xv) (hS : S w.heap.size)
 (h63 : l.length + m.length <= maxLen) (hb : (l.length + m.length) * bytes <= 140737488355328)
 (h : ∀ v' w', Own E e S w' v' (l ++ m) -> Keeps (fun g => v.ownBlock = some g) w w' -> (∀ g, v'.ownBlock = some g -> v.ownBlock = some g ∨ w.heap.size <= g) -> wpList P ops Q rest (a.put o.dst v') w') :
 wpList P ops Q (o :: rest) a w := by
 obtain ⟨v', w', hr, h1, h2, h3⟩ := run_append T o.type hown hsl hS h63 hb
 exact Lib.wpList_append_run w hgd s x t t ho v xv hs hx v' w' hr (h v' w' h1 h2 h3)
abbrev Kv := List (Int × Value)
def kvGet (l : Kv) (k : Int) : Option Value := (l.find? fun x => decide (x.1 = k)).map (·.2)
def kvDel (l : Kv) (k : Int) : Kv := l.filter fun x => !decide (x.1 = k)
structure IMap (w : World) (b : Nat) (l : Kv) : Prop where
 blk : ∃ es clock, w.heap[b]? = some (.map es clock) ∧ es.toList.map (fun e => (e.key, e.val)) = l.map fun x => (Value.int .i64 x.1, x.2)
 nodup : (l.map (·.1)).Nodup
theorem IMap.lt {w : World} {b : Nat} {l : Kv} (h : IMap w b l) : b < w.heap.size := by
 obtain ⟨es, c, hb, _⟩ := h.blk
 exact lt_of_block hb
theorem IMap.keep {F : Nat -> Prop} {w w' : World} {b : Nat} {l : Kv} (h : IMap w b l) (k : Keeps F w w') (hF : ¬ F b) : IMap w' b l := by
 obtain ⟨es, c, hb, he⟩ := h.blk
 exact ⟨⟨es, c, (k.block b h.lt hF).trans hb, he⟩, h.nodup⟩
theorem kvDel_none {l : Kv} {k : Int} (h : ∀ x ∈ l, x.1 ≠ k) : kvDel l k = l := List.filter_eq_self.2 fun x hx => by simpa using h x hx
theorem kvGet_none {l : Kv} {k : Int} : kvGet l k = none ↔ ∀ x ∈ l, x.1 ≠ k := by
 simp [kvGet]
theorem findNow_int {es : List MapEntry} {l : Kv} (he : es.map (fun e => (e.key, e.val)) = l.map fun x => (Value.int .i64 x.1, x.2)) (hn : (l.map (·.1)).Nodup) (k : Int) (i : Nat) :
 (kvGet l k = none ∧ Instr.findNow (.int .i64) (.int .i64 k) es i = some none) ∨
 ∃ j v, kvGet l k = some v ∧ Instr.findNow (.int .i64) (.int .i64 k) es i = some (some (i + j, v)) ∧ j < es.length ∧ (es.eraseIdx j).map (fun e => (e.key, e.val)) = (kvDel l k).map fun x => (Value.int .i64 x.1, x.2) := by
 induction es generalizing l i with
 | nil =>
   cases l with
   | nil => exact .inl ⟨rfl, rfl⟩
   | cons _ _ => simp at he
 | cons e es ih =>
   cases l with
   | nil => simp at he
   | cons a l =>
     simp only [List.map_cons, List.cons.injEq, Prod.mk.injEq] at he
     obtain ⟨⟨hk, hv⟩, he⟩ := he
     rw [List.map_cons, List.nodup_cons] at hn
     by_cases ea : a.1 = k
     ·subst ea
      refine .inr ⟨0, a.2, by simp [kvGet], ?_, by simp, ?_⟩
      ·simp [Instr.findNow, Instr.sameNow, hk, hv]
      ·have hd : kvDel (a :: l) a.1 = l := by
        unfold kvDel
        rw [List.filter_cons]
        simp only [decide_true, Bool.not_true, Bool.false_eq_true, if_false]
        exact kvDel_none fun x hx e => hn.1 (List.mem_map.2 ⟨x, hx, e⟩)
       rw [hd]
       simpa using he
     ·have hsk : Instr.findNow (.int .i64) (.int .i64 k) (e :: es) i = Instr.findNow (.int .i64) (.int .i64 k) es (i + 1) := by
       have hb : (k == a.1) = false := beq_false_of_ne fun h => ea h.symm
       simp only [Instr.findNow, Instr.sameNow, hk, if_true, hb]
      have hg : kvGet (a :: l) k = kvGet l k := by simp [kvGet, List.find?_cons, ea]
      have hd : kvDel (a :: l) k = a :: kvDel l k := by simp [kvDel, List.filter_cons, ea]
      rcases ih he hn.2 (i + 1) with ⟨h1, h2⟩ | ⟨j, v, h1, h2, h3, h4⟩
      ·exact .inl ⟨hg.trans h1, hsk.trans h2⟩
      ·refine .inr ⟨j + 1, v, hg.trans h1, hsk.trans (h2.trans (by rw [Nat.add_right_comm, Nat.add_assoc])), by simpa using h3, ?_⟩
       rw [hd]
       simpa [hk, hv] using h4
section
variable {P : Program} {t kt et : TypeId} {w : World} {b : Nat} {l : Kv}
theorem IMap.lookup (h : IMap w b l) (ht : P.underlying t = some (.map kt et)) (hk : P.underlying kt = some (.int .i64)) {z : Value} (hz : (zeroValue et).run P w = .ok z w) (k : Int) :
 (Instr.lookup t (.map (some b)) (.int .i64 k) false).run P w = .ok ((kvGet l k).getD z) w := by
 obtain ⟨es, c, hb, he⟩ := h.blk
 have hck := fun e => MapKept.run_checkKey (w := w) hk (k := .int .i64 k) (by simp [MapKept.IsKey]) e 9999
 rcases findNow_int he h.nodup k 0 with ⟨h1, h2⟩ | ⟨j, v, h1, h2, _, _⟩
 ·simp [Instr.lookup, run_underlying ht, MapKept.run_getObj_map hb, hck, MapKept.run_findKey hk h2, h1, hz, Result.andThen]
 ·simp [Instr.lookup, run_underlying ht, MapKept.run_getObj_map hb, hck, MapKept.run_findKey hk h2, h1, Result.andThen]
theorem IMap.update (h : IMap w b l) (ht : P.underlying t = some (.map kt et)) (hk : P.underlying kt = some (.int .i64)) (k : Int) (v : Value) (hno : kvGet l k = none) :
 ∃ w', (Instr.mapUpdate t (.map (some b)) (.int .i64 k) v).run P w = .ok () w' ∧ IMap w' b (l ++ [(k, v)]) ∧ Keeps (fun g => g = b) w w' := by
 obtain ⟨es, c, hb, he⟩ := h.blk
 have hck := fun e => MapKept.run_checkKey (w := w) hk (k := .int .i64 k) (by simp [MapKept.IsKey]) e 9999
 rcases findNow_int he h.nodup k 0 with ⟨h1, h2⟩ | ⟨j, v', h1, h2, _, _⟩
 ·refine ⟨ChangeMaps.setBlock w b (.map (es.push { key := .int .i64 k, val := v, born := c }) (c + 1)), ?_, ⟨⟨_, _, ChangeMaps.heap_setBlock_same hb _, by simp [he]⟩, ?_⟩, ⟨rfl, rfl, rfl, by simp [ChangeMaps.setBlock], fun i _ hi => ChangeMaps.heap_setBlock_other hb _ hi⟩⟩
  ·simp [Instr.mapUpdate, run_underlying ht, MapKept.run_getObj_map hb, hck, MapKept.run_findKey hk h2, MapKept.run_setObj_map _ hb, Result.andThen, ChangeMaps.setBlock]
  ·rw [List.map_append, List.nodup_append]
   refine ⟨h.nodup, by simp, fun a ha b hb => ?_⟩
   simp only [List.map_cons, List.map_nil, List.mem_singleton] at hb
   subst hb
   obtain ⟨x, hx, rfl⟩ := List.mem_map.1 ha
   exact kvGet_none.1 h1 x hx
 ·rw [hno] at h1; cases h1
theorem IMap.delete (h : IMap w b l) (ht : P.underlying t = some (.map kt et)) (hk : P.underlying kt = some (.int .i64)) (k : Int) (kt' ty : TypeId) :
 ∃ w', (Builtin.delete_ #[t, kt'] ty #[.map (some b), .int .i64 k]).run P w = .ok (.tuple #[]) w' ∧ IMap w' b (kvDel l k) ∧ Keeps (fun g => g = b) w w' := by
 obtain ⟨es, c, hb, he⟩ := h.blk
 have hck := fun e => MapKept.run_checkKey (w := w) hk (k := .int .i64 k) (by simp [MapKept.IsKey]) e 9999
 have hnd : ((kvDel l k).map (·.1)).Nodup := List.Nodup.sublist (List.Sublist.map _ List.filter_sublist) h.nodup
 rcases findNow_int he h.nodup k 0 with ⟨h1, h2⟩ | ⟨j, v, h1, h2, hj, h4⟩
 ·refine ⟨ChangeMaps.setBlock w b (.map es c), ?_, ⟨⟨_, _, ChangeMaps.heap_setBlock_same hb _, ?_⟩, hnd⟩, ⟨rfl, rfl, rfl, by simp [ChangeMaps.setBlock], fun i _ hi => ChangeMaps.heap_setBlock_other hb _ hi⟩⟩
  ·simp [Builtin.delete_, run_underlying ht, MapKept.run_getObj_map hb, hck, MapKept.run_findKey hk h2, MapKept.run_setObj_map _ hb, Result.andThen, ChangeMaps.setBlock]
  ·rw [kvDel_none (kvGet_none.1 h1)]; exact he
 ·refine ⟨ChangeMaps.setBlock w b (.map (es.eraseIdxIfInBounds j) c), ?_, ⟨⟨_, _, ChangeMaps.heap_setBlock_same hb _, ?_⟩, hnd⟩, ⟨rfl, rfl, rfl, by simp [ChangeMaps.setBlock], fun i _ hi => ChangeMaps.heap_setBlock_other hb _ hi⟩⟩
  ·simp [Builtin.delete_, run_underlying ht, MapKept.run_getObj_map hb, hck, MapKept.run_findKey hk h2, MapKept.run_setObj_map _ hb, Result.andThen, ChangeMaps.setBlock]
  ·rw [<- h4]
   have hj' : j < es.size := by simpa using hj
   simp [Array.eraseIdxIfInBounds, hj', Array.toList_eraseIdx]
theorem IMap.len (h : IMap w b l) (ht : P.underlying t = some (.map kt et)) (ty : TypeId) : (Builtin.len_ #[t] ty #[.map (some b)]).run P w = .ok (goInt l.length) w := by
 obtain ⟨es, c, hb, he⟩ := h.blk
 have : es.size = l.length := by have := congrArg List.length he; simpa using this
 simp [Builtin.len_, run_underlying ht, MapKept.run_getObj_map hb, Result.andThen, this]
theorem IMap.made (w : World) : IMap (w.alloc (.map #[] 0)) w.heap.size [] := ⟨⟨#[], 0, heap_alloc_new w _, rfl⟩, by simp⟩
end
theorem wpl_mapUpdate {P : Program} {w : World} {ops : Array Oper} {rest : List Oper} {o : Oper} {a : Act} {Q : Exit -> Act -> World -> Prop} (hg : o.guard = none) (m x v : Operand) (t : TypeId) (hop : o.op = Op.mapUpdate t m x v)
 {kt et : TypeId} (ht : P.underlying t = some (.map kt et)) (hk : P.underlying kt = some (.int .i64)) {b : Nat} {l : Kv} (hm : a.eval m = .map (some b)) (h : IMap w b l) {k : Int} (hx : a.eval x = .int .i64 k) {val : Value} (hv : a.eval v = val)
 (hno : kvGet l k = none) (hK : ∀ w', IMap w' b (l ++ [(k, val)]) -> Keeps (fun g => g = b) w w' -> wpList P ops Q rest (a.put o.dst undef) w') :
 wpList P ops Q (o :: rest) a w := by
 refine wpList_plain hg fun K' hK' => ?_
 obtain ⟨w', hrun, r1, r2⟩ := h.update ht hk k val hno
 unfold Oper.wp
 simp [execOp, hop, hm, hx, hv, hrun, Result.andThen]
 exact hK' _ _ (hK w' r1 r2)
theorem wpl_delete {P : Program} {w : World} {ops : Array Oper} {rest : List Oper} {o : Oper} {a : Act} {Q : Exit -> Act -> World -> Prop} (hg : o.guard = none) (m x : Operand) (t kt' : TypeId)
 (hop : o.op = Op.call { callee := Callee.builtin Builtin.delete, args := #[m, x], argTypes := #[t, kt'] })
 {kt et : TypeId} (ht : P.underlying t = some (.map kt et)) (hk : P.underlying kt = some (.int .i64)) {b : Nat} {l : Kv} (hm : a.eval m = .map (some b)) (h : IMap w b l) {k : Int} (hx : a.eval x = .int .i64 k)
 (hK : ∀ w', IMap w' b (kvDel l k) -> Keeps (fun g => g = b) w w' -> wpList P ops Q rest (a.put o.dst (.tuple #[])) w') :
 wpList P ops Q (o :: rest) a w := by
 refine wpList_plain hg fun K' hK' => ?_
 obtain ⟨w', hrun, r1, r2⟩ := h.delete ht hk k kt' o.type
 unfold Oper.wp
 simp [execOp, hop, resolve, invoke, builtin, hm, hx, hrun, Result.andThen]
 exact hK' _ _ (hK w' r1 r2)
def OwnB (S : Nat -> Prop) (w : World) (v : Value) (s : ByteArray) : Prop :=
 (v = .slice none 0 0 ∧ s.size = 0) ∨
 ∃ g cap, v = .slice (some ⟨g, 0, none⟩) s.size cap ∧ S g ∧ g < w.heap.size ∧ s.size <= cap ∧ cap <= maxLen ∧ (∀ j, j < cap -> (w.cell? ⟨g, j, none⟩).isSome = true) ∧
   (∀ j, j < cap -> w.frozen? ⟨g, j, none⟩ = false) ∧ ∀ j b, s.data.toList[j]? = some b -> w.cell? ⟨g, j, none⟩ = some (.int .u8 (b.toNat : Int))
theorem OwnB.nil (S : Nat -> Prop) (w : World) : OwnB S w (.slice none 0 0) ⟨#[]⟩ := .inl ⟨rfl, rfl⟩
theorem Keeps.setCells {F : Nat -> Prop} {a w : World} (h : Keeps F a w) {g : Nat} (hg : F g ∨ a.heap.size <= g) : ∀ (vs : List Value) (o : Nat), Keeps F a (w.setCells g o vs) := by
 intro vs
 induction vs generalizing w with
 | nil => intro o; exact h
 | cons v r ih => intro o; exact ih (h.setCell (p := ⟨g, o, none⟩) hg v) _
variable {S : Nat -> Prop} {w : World} {v : Value} {s : ByteArray}
theorem OwnB.form (h : OwnB S w v s) : ∃ p cap, v = .slice p s.size cap := by
 rcases h with ⟨rfl, h⟩ | ⟨g, cap, rfl, _⟩
 ·exact ⟨none, 0, by rw [h]⟩
 ·exact ⟨_, _, rfl⟩
theorem OwnB.keep {F : Nat -> Prop} {w' : World} (h : OwnB S w v s) (k : Keeps F w w') (hF : ∀ g, v.ownBlock = some g -> ¬ F g) : OwnB S w' v s := by
 rcases h with h | ⟨g, cap, rfl, h1, h2, h3, h4, h5, h6, h7⟩
 ·exact .inl h
 ·have hg := hF g rfl
  have hc : ∀ j, w'.cell? ⟨g, j, none⟩ = w.cell? ⟨g, j, none⟩ := fun j => k.cell (p := ⟨g, j, none⟩) h2 hg
  have hf : ∀ j, w'.frozen? ⟨g, j, none⟩ = w.frozen? ⟨g, j, none⟩ := fun j => k.frozen (p := ⟨g, j, none⟩) h2 hg
  exact .inr ⟨g, cap, rfl, h1, Nat.lt_of_lt_of_le h2 k.size, h3, h4, fun j hj => by rw [hc]; exact h5 j hj, fun j hj => by rw [hf]; exact h6 j hj, fun j b hb => by rw [hc]; exact h7 j b hb⟩
theorem OwnB.mono {S' : Nat -> Prop} (h : OwnB S w v s) (hS : ∀ g, v.ownBlock = some g -> S g -> S' g) : OwnB S' w v s := by
 rcases h with h | ⟨g, cap, rfl, h1, h2⟩
 ·exact .inl h
 ·exact .inr ⟨g, cap, rfl, hS g rfl h1, h2⟩
theorem OwnB.lt (h : OwnB S w v s) : ∀ g, v.ownBlock = some g -> g < w.heap.size := by
 rcases h with ⟨rfl, _⟩ | ⟨g, cap, rfl, h1, h2, _⟩
 ·intro g hg; simp [Value.ownBlock] at hg
 ·intro g' hg; simp [Value.ownBlock] at hg; subst hg; exact h2
theorem OwnB.small (h : OwnB S w v s) : s.size <= maxLen := by
 rcases h with ⟨_, h⟩ | ⟨g, cap, rfl, h1, h2, h3, h4, _⟩
 ·omega
 ·omega
theorem OwnB.conv (w : World) (e : TypeId) (s : ByteArray) (hS : S w.heap.size) (hs : s.size <= maxLen) :
 OwnB S (Lib.bytesWorld w e s) (.slice (some ⟨w.heap.size, 0, none⟩) s.size (grownCap w s.size 0 e)) s ∧ Keeps NoB w (Lib.bytesWorld w e s) := by
 have hge : s.size <= grownCap w s.size 0 e := grownCap_ge w s.size 0 e
 have hle := grownCap_le_maxLen w s.size 0 e hs
 have hsz : (Lib.bytesCells w e s).size = grownCap w s.size 0 e := by
  simp [Lib.bytesCells]; rw [ByteArray.size] at hge ⊢; omega
 have hnew := Lib.bytesWorld_at_new w e s
 have hsize := Lib.bytesWorld_size w e s
 refine ⟨.inr ⟨_, _, rfl, hS, by omega, hge, hle, fun j hj => ?_, fun j hj => ?_, fun j b hb => ?_⟩, ⟨?_, ?_, ?_, by omega, fun k hk _ => Lib.bytesWorld_at_old w e s k hk⟩⟩
 ·simp [World.cell?, hnew, hsz, hj]
 ·simp only [World.frozen?, hnew, hsz]
  simp; omega
 ·have hj := (List.getElem?_eq_some_iff.1 hb).1
  rw [Lib.bytesWorld_cell w e s j (by rw [Lib.size_eq]; exact hj)]
  simp [List.getD, hb]
 ·simp [Lib.bytesWorld, World.freeze]; rfl
 ·simp [Lib.bytesWorld, World.freeze]
 ·simp [Lib.bytesWorld, World.freeze]; rfl
theorem OwnB.str {P : Program} (h : OwnB S w v s) (src dst e : TypeId) (hs : P.underlying src = some (.slice e)) (he : P.underlying e = some (.int .u8)) (hd : P.underlying dst = some .string) :
 (convert src dst v).run P w = .ok (.string s) w := by
 rcases h with ⟨rfl, h⟩ | ⟨g, cap, rfl, h1, h2, h3, h4, h5, h6, h7⟩
 ·have : s = ⟨#[]⟩ := by
   exact ByteArray.ext (Array.eq_empty_of_size_eq_zero h)
  subst this
  rw [run_convert_bytes_string w src dst e none 0 0 hs he hd]
  rfl
 ·have := run_convert_bytes_back (P := P) w src dst e ⟨g, 0, none⟩ cap s.data.toList hs he hd (fun j hj => by
   rw [add_lit, Nat.zero_add]
   exact h7 j _ (List.getElem?_eq_getElem hj))
  simpa using this
set_option maxHeartbeats 400000 in
theorem cmpstr_any (a b : ByteArray) (w : World) :
 Calls Tryz.prog 270 #[.string a, .string b] w fun e w' => e = .returned (.int .i64 (bCmp a b)) ∧ w = w' := by
 go_enter Tryz.func270, Tryz.ntmps270
 go_wp2
 rw [run_callFunc_extern Tryz.func281 (by kernel_rfl) (by kernel_rfl) (by kernel_rfl) (e := Extern.BytealgCompare.compare) (by kernel_rfl), Lib.run_compareString]
 simp only [Result.andThen]
 rw [Oper.upon_value]
 go_wp2
 go_ret
 exact ⟨rfl, rfl⟩
set_option maxHeartbeats 400000 in
theorem cmp_any (a b : ByteArray) (w : World) :
 Calls Tryz.prog 247 #[.string a, .string b] w fun e w' => e = .returned (.int .i64 (bCmp a b)) ∧ w = w' := by
 go_enter Tryz.func247, Tryz.ntmps247
 go_wp2_with (go_at_call 270; refine (cmpstr_any _ _ _).mono ?_; rintro e w' ⟨rfl, rfl⟩)
 go_ret
 exact ⟨rfl, rfl⟩
set_option maxHeartbeats 400000 in
theorem ib_any (s : ByteArray) (c : Int) (w : World) :
 Calls Tryz.prog 78 #[.string s, .int .u8 c] w fun e w' => e = .returned (.int .i64 (bIdx s c.toNat.toUInt8)) ∧ w = w' := by
 go_enter Tryz.func78, Tryz.ntmps78
 go_wp2
 rw [run_callFunc_extern Tryz.func193 (by kernel_rfl) (by kernel_rfl) (by kernel_rfl) (e := Extern.BytealgIndexByte.indexByte) (by kernel_rfl), run_indexByte_string]
 simp only [Result.andThen, Lib.firstIdx_eq]
 rw [Oper.upon_value]
 go_wp2
 go_ret
 exact ⟨rfl, rfl⟩
theorem ret_bool {a b : Bool} (h : a = b) : Ending.returned (.bool a) = Ending.returned (.bool b) := by rw [h]
theorem ret_i64 {a b : Int} (h : a = b) : Ending.returned (.int .i64 a) = Ending.returned (.int .i64 b) := by rw [h]
set_option maxHeartbeats 400000 in
theorem name_any (s : ByteArray) (w : World) :
 Calls Tryz.prog 209 #[.string s] w fun e w' => e = .returned (.bool (okName s)) ∧ w = w' := by
 have H := Lib.hid (okName_eq s)
 go_enter Tryz.func209, Tryz.ntmps209
 go_wp2_with (go_at_call 78; refine (ib_any _ _ _).mono ?_; rintro e w' ⟨rfl, rfl⟩)
 all_goals
  go_ret
  refine ⟨ret_bool ?_, rfl⟩
  rw [H.out]
  first | (simp [*]; done) | (simp [*]; omega) | (simp [*]; intros; omega)
def encEnt : Enc Ent where
 enc := fun e => [.string e.1, .int .i64 e.2]
 k := 2
 pos := by decide
 len := fun _ => rfl
 one := fun x v hv => by simp at hv; rcases hv with rfl | rfl <;> rfl
theorem ElemT.of {α : Type} {P : Program} {E : Enc α} {t e : TypeId} {z : α} {bytes : Nat} (zv : Value) (hu : P.underlying t = some (.slice e))
 (h : (P.info? e).map (fun i => (i.zero, i.size, i.bytes)) = some (some zv, E.k, bytes)) (hz : zv.cells.toList = E.enc z) : ElemT P E t e z bytes := by
 refine ⟨hu, ?_⟩
 cases hi : P.info? e with
 | none => rw [hi] at h; cases h
 | some i => rw [hi] at h; simp at h; exact ⟨i, rfl, h.2.1, h.2.2, zv, h.1, hz⟩
theorem tEnt : ElemT Tryz.prog encEnt 109 193 (ByteArray.empty, 0) 24 :=
 .of (.agg #[.string ByteArray.empty, .int .i64 0]) Tryz.underlying109 (by kernel_rfl) rfl
set_option maxHeartbeats 400000 in
theorem find1_any (nm name : ByteArray) (n : Int) (w : World) :
 Calls Tryz.prog 246 #[.agg #[.string nm, .int .i64 n], .string name] w fun e w' => e = .returned (.int .i64 (bCmp nm name)) ∧ Keeps NoB w w' := by
 go_enter Tryz.func246, Tryz.ntmps246
 go_wp2_with (go_at_call 247; refine (cmp_any _ _ _).mono ?_; rintro e w' ⟨rfl, rfl⟩)
 go_ret
 exact ⟨rfl, (Keeps.refl _ _).alloc _⟩
theorem SlAt.ent {S : Nat -> Prop} {w : World} {p : Option Addr} {c : Nat} {l : List Ent} (h : SlAt encEnt S w p c l) {i : Nat} {x : Ent} (hi : l[i]? = some x) :
 ∃ g off, p = some ⟨g, off, none⟩ ∧ S g ∧ g < w.heap.size ∧ w.cell? ⟨g, off + i * 2, none⟩ = some (.string x.1) ∧ w.cell? ⟨g, off + i * 2 + 1, none⟩ = some (.int .i64 x.2) := by
 obtain ⟨g, off, hp, hS, hg, hc⟩ := h.at hi
 exact ⟨g, off, hp, hS, hg, hc 0 _ rfl, by have := hc 1 _ rfl; rwa [<- Nat.add_assoc] at this⟩
set_option maxHeartbeats 1000000 in
theorem bs_any (S : Nat -> Prop) (w : World) (p : Option Addr) (c : Nat) (es : List Ent) (name : ByteArray) (h : SlAt encEnt S w p c es) (hr : Rising es) (hn : es.length < 4294967296) :
 Calls Tryz.prog 245 #[.slice p es.length c, .string name, .func (.func 246) #[] #[]] w fun e w' =>
  e = .returned (.tuple #[.int .i64 (lb es name), .bool (entHas es name)]) ∧ Keeps NoB w w' := by
 have hcap := h.cap
 have hmax := h.max
 unfold maxLen at hmax
 go_enter Tryz.func245, Tryz.ntmps245
 go_wp2
 go_loopw [9, 10] (fun i j wr => ∃ a b : Nat, a <= b ∧ b <= es.length ∧ i = .int .i64 a ∧ j = .int .i64 b ∧ (∀ k x, k < a -> es[k]? = some x -> bLt x.1 name = true) ∧ (∀ k x, b <= k -> es[k]? = some x -> bLt x.1 name = false) ∧ Keeps NoB w wr) (fun i j _ => (intOf j).toNat - (intOf i).toNat)
 case atStart => exact ⟨0, es.length, Nat.zero_le _, Nat.le_refl _, rfl, rfl, fun k x hk => by omega, fun k x hk hx => by have := (List.getElem?_eq_some_iff.1 hx).1; omega, Keeps.refl _ _⟩
 case round =>
  obtain ⟨a, b, hab, hb, rfl, rfl, hlo, hhi, hkp⟩ := hrel
  have Hlo := Lib.hid hlo
  have Hhi := Lib.hid hhi
  have Hkp := Lib.hid hkp
  clear hlo hhi hkp
  by_cases hlt : a < b
  ·obtain ⟨x, hx⟩ : ∃ x, es[(a + b) / 2]? = some x := ⟨_, List.getElem?_eq_getElem (by omega)⟩
   obtain ⟨g, off, rfl, hS, hg, c0, c1⟩ := (h.keepN Hkp.out).ent hx
   have Hx := Lib.hid hx
   clear hx
   by_cases hb : bLt x.1 name = true
   ·have hneg := (bCmp_neg _ _).2 hb
    go_wp2_with (go_at_call 246; refine (find1_any _ _ _ _).mono ?_; rintro e w' ⟨rfl, hk1⟩)
    go_roundw
    case rel =>
     refine ⟨(a + b) / 2 + 1, b, by omega, by omega, by go_num, rfl, fun k y hk hy => ?_, Hhi.out, Hkp.out.trans hk1⟩
     by_cases e : k = (a + b) / 2
     ·subst e; rw [Hx.out] at hy; cases hy; exact hb
     ·exact bLt_trans (hr.get hy Hx.out (by omega)) hb
    case measure => simp [intOf]; omega
   ·have hneg : 0 <= bCmp x.1 name := by
     have := mt (bCmp_neg x.1 name).1 hb; omega
    have hb' : bLt x.1 name = false := by simpa using hb
    go_wp2_with (go_at_call 246; refine (find1_any _ _ _ _).mono ?_; rintro e w' ⟨rfl, hk1⟩)
    go_roundw
    case rel =>
     refine ⟨a, (a + b) / 2, by omega, by omega, rfl, by go_num, Hlo.out, fun k y hk hy => ?_, Hkp.out.trans hk1⟩
     by_cases e : k = (a + b) / 2
     ·subst e; rw [Hx.out] at hy; cases hy; exact hb'
     ·have := hr.get Hx.out hy (by omega)
      cases hc : bLt y.1 name with
      | false => rfl
      | true => rw [bLt_trans this hc] at hb'; cases hb'
    case measure => simp [intOf]; omega
  ·obtain rfl : b = a := by omega
   have hlb : lb es name = b := lb_unique b hb (fun j x hj hx => Hlo.out j x hj hx) (fun x hx => Hhi.out b x (Nat.le_refl _) hx)
   have Hlb := Lib.hid hlb
   have hhas := lb_has hr name
   rw [hlb] at hhas
   clear hlb
   by_cases hlt2 : b < es.length
   ·obtain ⟨x, hx⟩ : ∃ x, es[b]? = some x := ⟨_, List.getElem?_eq_getElem (by omega)⟩
    obtain ⟨g, off, rfl, hS, hg, c0, c1⟩ := (h.keepN Hkp.out).ent hx
    rw [hx] at hhas
    have Hhas := Lib.hid hhas
    have Hx := Lib.hid hx
    clear hx hhas
    go_wp2_with (go_at_call 246; refine (find1_any _ _ _ _).mono ?_; rintro e w' ⟨rfl, hk1⟩)
    go_ret2
    refine ⟨?_, Hkp.out.trans hk1⟩
    rw [Hlb.out, Hhas.out]
    have hz : (bCmp x.1 name == 0) = decide (x.1 = name) := by rw [Bool.eq_iff_iff]; simpa using bCmp_zero x.1 name
    simp [hz]
   ·rw [List.getElem?_eq_none (by omega)] at hhas
    have Hhas := Lib.hid hhas
    clear hhas
    go_wp2_with fail
    go_ret2
    refine ⟨?_, Hkp.out⟩
    rw [Hlb.out, Hhas.out]
    rfl
structure IsDir (G : Nat -> Prop) (w : World) (a : Addr) (v : Value) (es : List Ent) : Prop where
 cell : w.cell? a = some v
 free : w.frozen? a = false
 spot : a.spot = none
 own : Own encEnt 193 G w v es
 rising : Rising es
 names : ∀ e ∈ es, okName e.1 = true
 apart : ¬ v.ownBlock = some a.block
set_option maxHeartbeats 400000 in
theorem find_any (G : Nat -> Prop) (w : World) (a : Addr) (v : Value) (es : List Ent) (name : ByteArray) (h : IsDir G w a v es) (hn : es.length < 4294967296) :
 Calls Tryz.prog 208 #[.pointer (some a), .string name] w fun e w' =>
  e = .returned (.tuple #[.int .i64 (lb es name), .bool (entHas es name)]) ∧ Keeps NoB w w' := by
 obtain ⟨p, c, rfl, hs⟩ := h.own.sl
 have hc := h.cell
 have hr := h.rising
 go_enter Tryz.func208, Tryz.ntmps208
 go_wp2_with (go_at_call 245; refine (bs_any _ _ _ _ _ _ hs hr hn).mono ?_; rintro e w' ⟨rfl, hk1⟩)
 go_ret2
 exact ⟨rfl, hk1⟩
set_option maxHeartbeats 400000 in
theorem len_any (G : Nat -> Prop) (w : World) (a : Addr) (v : Value) (es : List Ent) (h : IsDir G w a v es) :
 Calls Tryz.prog 129 #[.pointer (some a)] w fun e w' => e = .returned (.int .i64 es.length) ∧ w = w' := by
 obtain ⟨p, c, rfl, hs⟩ := h.own.sl
 have hc := h.cell
 go_enter Tryz.func129, Tryz.ntmps129
 go_wp2
 go_ret
 exact ⟨rfl, rfl⟩
set_option maxHeartbeats 400000 in
theorem get_any (G : Nat -> Prop) (w : World) (a : Addr) (v : Value) (es : List Ent) (name : ByteArray) (h : IsDir G w a v es) (hn : es.length < 4294967296) :
 Calls Tryz.prog 207 #[.pointer (some a), .string name] w fun e w' =>
  e = .returned (.tuple #[.int .i64 ((entGet es name).getD 0), .bool (entGet es name).isSome]) ∧ Keeps NoB w w' := by
 have hfind := find_any G w a v es name h hn
 obtain ⟨p, c, rfl, hs⟩ := h.own.sl
 have hlt := lt_of_cell h.cell
 have hhas := lb_has h.rising name
 have hget := get_at h.rising name
 by_cases hh : entHas es name = true
 ·rw [hh] at hhas
  cases hl : es[lb es name]? with
  | none => rw [hl] at hhas; cases hhas
  | some x =>
    rw [hl] at hhas hget
    have hx : x.1 = name := by simpa using hhas.symm
    simp only [hx, if_true] at hget
    have Hget := Lib.hid hget
    have Hl := Lib.hid hl
    have hll := (List.getElem?_eq_some_iff.1 hl).1
    rw [hh] at hfind
    have Hfind := Lib.hid hfind
    clear hhas hget hl hh hfind
    go_enter Tryz.func207, Tryz.ntmps207
    go_wp2_with (fail)
    refine Hfind.out.mono ?_
    rintro e w' ⟨rfl, hk1⟩
    obtain ⟨g, off, rfl, hS, hg, c0, c1⟩ := (hs.keepN hk1).ent Hl.out
    have hc := (hk1.cell hlt (fun h => h)).trans h.cell
    go_wp2_with fail
    go_ret2
    refine ⟨?_, hk1⟩
    rw [Hget.out]; rfl
 ·have hh' : entHas es name = false := by simpa using hh
  have hget0 : entGet es name = none := by
   rw [hh'] at hhas
   cases hl : es[lb es name]? with
   | none => rw [hl] at hget; exact hget
   | some x =>
     rw [hl] at hget hhas
     have : ¬ x.1 = name := by simpa using hhas.symm
     simpa [this] using hget
  have Hget := Lib.hid hget0
  rw [hh'] at hfind
  have Hfind := Lib.hid hfind
  clear hhas hget hget0 hh hh' hfind
  go_enter Tryz.func207, Tryz.ntmps207
  go_wp2_with (fail)
  refine Hfind.out.mono ?_
  rintro e w' ⟨rfl, hk1⟩
  go_wp2_with fail
  go_ret2
  refine ⟨?_, hk1⟩
  rw [Hget.out]; rfl
theorem entSize_take (es : List Ent) (k : Nat) (x : Ent) (h : es[k]? = some x) : entSize (es.take (k + 1)) = entSize (es.take k) + x.1.size := by
 unfold entSize
 rw [List.take_add_one, h]
 simp
theorem entSize_le (es : List Ent) (h : ∀ e ∈ es, okName e.1 = true) : entSize es <= 255 * es.length := by
 induction es with
 | nil => simp [entSize]
 | cons a l ih =>
   have ha : a.1.size <= 255 := by have := h a (by simp); simp [okName] at this; omega
   have := ih (fun e he => h e (by simp [he]))
   simp only [entSize, List.map_cons, List.sum_cons, List.length_cons] at *
   omega
set_option maxHeartbeats 400000 in
theorem size_any (G : Nat -> Prop) (w : World) (a : Addr) (v : Value) (es : List Ent) (h : IsDir G w a v es) (hn : es.length < 4294967296) :
 Calls Tryz.prog 164 #[.pointer (some a)] w fun e w' => e = .returned (.int .i64 (entSize es)) ∧ Keeps NoB w w' := by
 have hnm := h.names
 obtain ⟨p, c, rfl, hs⟩ := h.own.sl
 have hc := h.cell
 have Hnm := Lib.hid hnm
 clear hnm
 go_enter Tryz.func164, Tryz.ntmps164
 go_wp2
 go_loopw [3, 5, 11] (fun s u i wr => ∃ k : Nat, k <= es.length ∧ i = .int .i64 k ∧ s = .int .i64 (entSize (es.take k)) ∧ Keeps NoB w wr) (fun _ _ i _ => es.length - (intOf i).toNat)
 case atStart => exact ⟨0, Nat.zero_le _, rfl, by simp [entSize], Keeps.refl _ _⟩
 case round =>
  obtain ⟨k, hk, rfl, rfl, hkp⟩ := hrel
  have Hkp := Lib.hid hkp
  clear hkp
  by_cases hlt : k < es.length
  ·obtain ⟨x, hx⟩ : ∃ x, es[k]? = some x := ⟨_, List.getElem?_eq_getElem hlt⟩
   obtain ⟨g, off, rfl, hS, hg, c0, c1⟩ := (hs.keepN Hkp.out).ent hx
   have hx1 : x.1.size <= 255 := by have := Hnm.out x (List.mem_of_getElem? hx); simp [okName] at this; omega
   have hle := entSize_le (es.take k) (fun e he => Hnm.out e (List.mem_of_mem_take he))
   rw [List.length_take] at hle
   have HS := Lib.hid (entSize_take es k x hx)
   clear hx
   go_wp2
   go_roundw
   case rel => exact ⟨k + 1, by omega, by go_num, by rw [HS.out]; go_num, (Hkp.out.alloc _)⟩
   case measure => simp [intOf]; omega
  ·go_wp2
   go_ret
   exact ⟨ret_i64 (by rw [List.take_of_length_le (by omega)]), Hkp.out⟩
set_option maxHeartbeats 400000 in
theorem clone_any (S : Nat -> Prop) (w : World) (p : Option Addr) (c : Nat) (es : List Ent) (h : SlAt encEnt S w p c es) (hn : es.length < 4294967296) :
 Calls Tryz.prog 212 #[.slice p es.length c] w fun e w' =>
  ∃ v', e = .returned v' ∧ Own encEnt 193 (fun g => w.heap.size <= g) w' v' es ∧ Keeps NoB w w' := by
 cases p with
 | none =>
   have hc0 := h.nilc rfl
   have hcap := h.cap
   have h0 : es.length = 0 := by omega
   subst hc0
   obtain rfl : es = [] := List.eq_nil_of_length_eq_zero h0
   have heq : ∀ (w : World), (binOp .eql 109 (.slice none 0 0) (.slice none 0 0)).run Tryz.prog w = .ok (.bool true) w := fun w => Lib.run_eql_slice_nil w _ _ none 0 0 0 0 Tryz.underlying109
   go_enter Tryz.func212, Tryz.ntmps212
   go_wp2
   go_ret
   exact ⟨_, rfl, Own.nil _ _ _ _, Keeps.refl _ _⟩
 | some ad =>
   have heq : ∀ (w : World), (binOp .eql 109 (.slice (some ad) es.length c) (.slice none 0 0)).run Tryz.prog w = .ok (.bool false) w := fun w => Lib.run_eql_slice_nil w _ _ (some ad) es.length c 0 0 Tryz.underlying109
   have hmx : es.length <= maxLen := by have := h.cap; have := h.max; omega
   go_enter Tryz.func212, Tryz.ntmps212
   go_wp2_with (at_builtin; refine wpl_append rfl _ _ rfl tEnt (own_lit (S := fun g => w.heap.size <= g) [] #[] rfl 0 rfl (Nat.le_refl _) (Nat.zero_le _)) ⟨_, _, rfl, h.keepN ((Keeps.refl _ _).alloc _)⟩ rfl rfl (by simp) (by simpa using hmx) (by simp; omega) ?_; intro v' w' ho hk hf)
   go_ret
   exact ⟨v', rfl, ho.mono (fun g _ h => h), ((Keeps.refl _ _).alloc _).step hk (fun g hg => by simp [Value.ownBlock] at hg; omega)⟩
set_option maxHeartbeats 400000 in
theorem list_any (G : Nat -> Prop) (w : World) (a : Addr) (v : Value) (es : List Ent) (h : IsDir G w a v es) (hn : es.length < 4294967296) :
 Calls Tryz.prog 165 #[.pointer (some a)] w fun e w' =>
  ∃ v', e = .returned v' ∧ Own encEnt 193 (fun g => w.heap.size <= g) w' v' es ∧ Keeps NoB w w' := by
 obtain ⟨p, c, rfl, hs⟩ := h.own.sl
 have hc := h.cell
 go_enter Tryz.func165, Tryz.ntmps165
 go_wp2_with (go_at_call 212; refine (clone_any _ _ _ _ _ hs hn).mono ?_; rintro e w' ⟨v', rfl, ho, hk⟩)
 go_ret
 exact ⟨v', rfl, ho, hk⟩
theorem info_ent : ∃ i : TypeInfo, Tryz.prog.info? 193 = some i ∧ i.size = encEnt.k ∧ i.bytes = 24 ∧ i.zero = some (.agg #[.string ByteArray.empty, .int .i64 0]) := by
 have h : (Tryz.prog.info? 193).map (fun i => (i.zero, i.size, i.bytes)) = some (some (.agg #[.string ByteArray.empty, .int .i64 0]), 2, 24) := by kernel_rfl
 cases hi : Tryz.prog.info? 193 with
 | none => rw [hi] at h; cases h
 | some i => rw [hi] at h; simp at h; exact ⟨i, rfl, h.2.1, h.2.2, h.1⟩
set_option maxHeartbeats 1000000 in
set_option maxRecDepth 100000 in
theorem ins_end (G : Nat -> Prop) (w : World) (v : Value) (es : List Ent) (x : Ent) (b : Nat) (ho : Own encEnt 193 G w v es) (hG : G w.heap.size) (hn : es.length < 4294967295)
 (hx : w.heap[b]? = some (.cells #[.string x.1, .int .i64 x.2] 193 (0, 0))) :
 Calls Tryz.prog 210 #[v, .int .i64 es.length, .slice (some ⟨b, 0, none⟩) 1 1] w fun e w' =>
  ∃ v', e = .returned v' ∧ Own encEnt 193 G w' v' (es ++ [x]) ∧ Keeps (fun g => v.ownBlock = some g) w w' ∧ (∀ g, v'.ownBlock = some g -> v.ownBlock = some g ∨ w.heap.size <= g) := by
 have hsx : Sl encEnt (fun _ => True) w (.slice (some ⟨b, 0, none⟩) 1 1) [x] :=
  (Own.mk (E := encEnt) (l := [x]) (cap := 1) (S := fun _ => True) trivial hx (Nat.le_refl _) (by decide) rfl rfl).sl
 obtain ⟨p, c, rfl, hs⟩ := ho.sl
 have hcap := hs.cap
 have hmax := hs.max
 unfold maxLen at hmax
 have hsl := fun wx => run_slice_l (P := Tryz.prog) 109 193 2 Tryz.underlying109 (by kernel_rfl) p es.length c es.length (Nat.le_refl _) wx (by omega)
 go_enter Tryz.func210, Tryz.ntmps210
 go_wp2_with (at_builtin; refine wpl_append rfl _ _ rfl tEnt ho hsx rfl rfl hG (by simp [maxLen]; omega) (by simp; omega) ?_; intro v' w' ho' hk hf)
 go_ret
 exact ⟨v', rfl, ho', hk, hf⟩
theorem run_grow_zeros (G : Nat -> Prop) (w : World) (g c : Nat) (cur : Array Value) (es : List Ent) (i k : Nat) (hG : G w.heap.size) (ty : TypeId)
 (hg : w.heap[g]? = some (.cells cur 193 (0, 0))) (hcs : cur.size = c * 2) (htk : cur.toList.take (es.length * 2) = es.flatMap encEnt.enc) (hc1 : es.length <= c)
 (hi : i <= es.length) (hk : 0 < k) (hfull : c < i + k) (hb : i + k <= 4294967296) :
 ∃ cap' cur' w1, (Builtin.append_ #[109, 3] ty #[.slice (some ⟨g, 0, none⟩) i c, .int .i64 (k : Int)]).run Tryz.prog w = .ok (.slice (some ⟨w.heap.size, 0, none⟩) (i + k) cap') w1 ∧
   w1.heap[w.heap.size]? = some (.cells cur' 193 (0, 0)) ∧ cur'.size = cap' * 2 ∧ i + k <= cap' ∧ cap' <= maxLen ∧ cur'.toList.take (i * 2) = (es.take i).flatMap encEnt.enc ∧ Keeps NoB w w1 := by
 obtain ⟨inf, hi', his, hib, hiz⟩ := info_ent
 have hm : i + k <= maxLen := by simp only [maxLen]; omega
 have hold : (Builtin.firstCells inf.size i (.slice (some ⟨g, 0, none⟩) i c)).run Tryz.prog w.drew = .ok ((es.take i).flatMap encEnt.enc).toArray w.drew := by
  refine run_firstCells_some w.drew inf.size i ⟨g, 0, none⟩ i c _ (by rw [encEnt.flat_len, his, List.length_take, Nat.min_eq_left hi]) (fun j u hu => ?_)
  have hj := (List.getElem?_eq_some_iff.1 hu).1
  rw [encEnt.flat_take, List.length_take, encEnt.flat_len] at hj
  rw [encEnt.flat_take, <- htk, List.getElem?_take, List.getElem?_take] at hu
  have hk2 : encEnt.k = 2 := rfl
  rw [hk2] at hj hu
  rw [if_pos (by omega), if_pos (by omega)] at hu
  rw [add_lit, World.cell?_drew, cell_of_row w g _ cur _ (0, 0) hg, Nat.zero_add]
  simpa using hu
 have hr := Lib.run_append_grow_zeros (P := Tryz.prog) w 109 3 ty 193 inf _ .i64 .i64 Tryz.underlying109 Tryz.underlying3 hi' hiz (some ⟨g, 0, none⟩) i c _ hold k hk (by rw [his]; decide) hfull
  (by omega) (by rw [hib]; omega) (growslice_fits hfull (by rw [hib]; omega))
 have hge := grownCap_ge w (i + k) c 193
 have hle := grownCap_le_maxLen w (i + k) c 193 hm
 refine ⟨_, _, _, hr, heap_alloc_new w.drew _, ?_, hge, hle, ?_, ((Keeps.refl _ _).drew).alloc _⟩
 ·simp only [Array.size_append, List.size_toArray, size_zeroCells]
  rw [encEnt.flat_len]
  have hk2 : encEnt.k = 2 := rfl
  have hzz : (Value.agg #[.string ByteArray.empty, .int .i64 0]).cells.size = 2 := rfl
  rw [hzz, hk2, List.length_take]
  omega
 ·simp only [Array.toList_append, List.append_assoc]
  have hl : ((es.take i).flatMap encEnt.enc).length = i * 2 := by
   have hk2 : encEnt.k = 2 := rfl
   rw [encEnt.flat_len, hk2, List.length_take]; omega
  rw [<- hl]
  exact List.take_left
set_option maxHeartbeats 1000000 in
set_option maxRecDepth 100000 in
theorem ins_grow (G : Nat -> Prop) (w : World) (g c : Nat) (cur : Array Value) (es : List Ent) (x : Ent) (b i : Nat) (hG : G w.heap.size) (hn : es.length < 4294967295)
 (hg : w.heap[g]? = some (.cells cur 193 (0, 0))) (hc1 : es.length <= c) (hc2 : c <= maxLen) (hcs : cur.size = c * 2) (htk : cur.toList.take (es.length * 2) = es.flatMap encEnt.enc)
 (hx : w.heap[b]? = some (.cells #[.string x.1, .int .i64 x.2] 193 (0, 0))) (hi : i < es.length) (hfull : c < es.length + 1) :
 Calls Tryz.prog 210 #[.slice (some ⟨g, 0, none⟩) es.length c, .int .i64 i, .slice (some ⟨b, 0, none⟩) 1 1] w fun e w' =>
  ∃ v', e = .returned v' ∧ Own encEnt 193 G w' v' (es.take i ++ x :: es.drop i) ∧ Keeps NoB w w' ∧ (∀ g, v'.ownBlock = some g -> w.heap.size <= g) := by
 obtain ⟨inf, hi', his, hib, hiz⟩ := info_ent
 have hsx : SlAt encEnt (fun _ => True) w (some ⟨b, 0, none⟩) 1 [x] := by
  obtain ⟨p, c, h, hs⟩ := (Own.mk (E := encEnt) (l := [x]) (cap := 1) (S := fun _ => True) trivial hx (Nat.le_refl _) (by decide) rfl rfl).sl
  cases h; exact hs
 have hse : SlAt encEnt (fun _ => True) w (some ⟨g, 0, none⟩) c es := by
  obtain ⟨p, c', h, hs⟩ := (Own.mk (E := encEnt) (l := es) (cap := c) (S := fun _ => True) trivial hg hc1 hc2 hcs htk).sl
  cases h; exact hs
 obtain ⟨cap', cur', w1, hrun, hg1, hcs1, hcap1, hcm1, htk1, hk1⟩ := run_grow_zeros G w g c cur es i (es.length + 1 - i) hG 109 hg hcs htk hc1 (by omega) (by omega) (by omega) (by omega)
 have ek : ((es.length + 1 - i : Nat) : Int) = (es.length : Int) + 1 - i := by omega
 have ek2 : i + (es.length + 1 - i) = es.length + 1 := by omega
 rw [ek, ek2] at hrun
 have Hrun := Lib.hid hrun
 clear hrun ek ek2
 unfold maxLen at hc2
 go_enter Tryz.func210, Tryz.ntmps210
 have hk2e : encEnt.k = 2 := rfl
 go_wp2_with (first | (at_builtin; refine Lib.wpList_append_run _ rfl _ _ _ _ rfl _ _ rfl rfl _ _ Hrun.out ?_) | (refine wpl_copy (E := encEnt) rfl (.tmp 43) (.tmp 44) _ _ rfl Tryz.underlying109 hi' his _ _ _ _ rfl _ _ hg1 rfl (hsx.keepN hk1) ?_ ?_ ?_))
 ·simp [Nat.min_def]; omega
 ·rw [hcs1, hk2e]; simp only [List.length_singleton]; omega
 simp only [List.length_singleton, hk2e]
 obtain ⟨cur2, hcur2⟩ : ∃ cur2, cur2 = (List.take (i * 2) cur'.toList ++ (List.flatMap encEnt.enc [x] ++ List.drop (i * 2 + 1 * 2) cur'.toList)).toArray := ⟨_, rfl⟩
 rw [<- hcur2]
 have hg2 := setRow_heap w1 w.heap.size cur' cur2 _ (0, 0) hg1
 have hk2 := hk1.setRow (g := w.heap.size) (Or.inr (Nat.le_refl _)) cur2
 have Hcur2 := Lib.hid hcur2
 clear hcur2
 generalize w1.setRow w.heap.size cur2 = w2 at *
 have e1 : subAt 2 (some ⟨w.heap.size, 0, none⟩) cap' (i + 1) = some ⟨w.heap.size, (i + 1) * 2, none⟩ := by
  unfold subAt; rw [if_neg (by omega)]; simp [add_lit]
 have hsl1 := fun wx => run_slice_l (P := Tryz.prog) 109 193 2 Tryz.underlying109 (by kernel_rfl) (some ⟨w.heap.size, 0, none⟩) (es.length + 1) cap' (i + 1) (by omega) wx (by omega)
 have hsl2 := fun wx => run_slice_l (P := Tryz.prog) 109 193 2 Tryz.underlying109 (by kernel_rfl) (some ⟨g, 0, none⟩) es.length c i (by omega) wx (by omega)
 rw [e1, show ((i + 1 : Nat) : Int) = (i : Int) + 1 by omega, show es.length + 1 - (i + 1) = es.length - i by omega] at hsl1
 clear e1
 go_wp2_with fail
 have hsum : IntKind.i64.wrap ((i : Int) + 1) = (i : Int) + 1 := by rw [IntKind.wrap_i64]; omega
 go_still_tail 8, (by kernel_rfl)
 clear hsum
 change wpList _ _ _ _ _ w2.drew
 have hg3 : w2.drew.heap[w.heap.size]? = some (.cells cur2 193 (0, 0)) := hg2
 have hk3 : Keeps NoB w w2.drew := hk2.drew
 clear hg2 hk2
 generalize w2.drew = w3 at *
 have hsub := (hse.sub i es.length (by omega) (Nat.le_refl _)).keepN hk3
 rw [List.take_length] at hsub
 have hcl : cur2.size = cap' * 2 := by
  rw [Hcur2.out, List.size_toArray, List.length_append, List.length_append, List.length_take, List.length_drop, Array.length_toList, hcs1, encEnt.flat_len, hk2e]; simp only [List.length_singleton]; omega
 refine wpl_copy (E := encEnt) rfl (.tmp 50) (.tmp 53) _ _ rfl Tryz.underlying109 hi' his _ _ _ _ rfl _ _ hg3 rfl hsub ?_ ?_ ?_
 ·simp
 ·rw [hcl, hk2e, List.length_drop]; omega
 rw [List.length_drop, hk2e]
 obtain ⟨cur3, hcur3⟩ : ∃ cur3, cur3 = (List.take ((i + 1) * 2) cur2.toList ++ (List.flatMap encEnt.enc (List.drop i es) ++ List.drop ((i + 1) * 2 + (es.length - i) * 2) cur2.toList)).toArray := ⟨_, rfl⟩
 rw [<- hcur3]
 have hg4 := setRow_heap w3 w.heap.size cur2 cur3 _ (0, 0) hg3
 have hk4 := hk3.setRow (g := w.heap.size) (Or.inr (Nat.le_refl _)) cur3
 have Hcur3 := Lib.hid hcur3
 clear hcur3
 generalize w3.setRow w.heap.size cur3 = w4 at *
 go_wp2_with fail
 go_ret
 have hL : cur'.toList.length = cap' * 2 := by rw [Array.length_toList]; exact hcs1
 have hAl : (List.flatMap encEnt.enc (es.take i)).length = i * 2 := by rw [encEnt.flat_len, hk2e, List.length_take]; omega
 have hVl : (List.flatMap encEnt.enc [x]).length = 2 := rfl
 have hBl : (List.flatMap encEnt.enc (es.drop i)).length = (es.length - i) * 2 := by rw [encEnt.flat_len, hk2e, List.length_drop]
 have hsp := splice_two cur'.toList (List.flatMap encEnt.enc (es.take i)) (List.flatMap encEnt.enc [x]) (List.flatMap encEnt.enc (es.drop i)) cur2.toList cur3.toList
  (by rw [hAl]; exact htk1) (by rw [hAl, hVl, hBl, hL]; omega)
  (by rw [hAl, hVl, Hcur2.out]) (by rw [hAl, hVl, hBl, Hcur3.out]; simp [Nat.add_mul])
 refine ⟨_, rfl, ?_, hk4, fun g h => by simp [Value.ownBlock] at h; omega⟩
 have hll : (es.take i ++ x :: es.drop i).length = es.length + 1 := by simp; omega
 rw [<- hll]
 refine Own.mk hG hg4 (by rw [hll]; omega) hcm1 ?_ ?_
 ·rw [<- Array.length_toList, hsp.2, hL, hk2e]
 ·have := hsp.1
  rw [hAl, hVl, hBl] at this
  rw [hll, hk2e, show (es.length + 1) * 2 = i * 2 + 2 + (es.length - i) * 2 by omega, this, List.flatMap_append, List.flatMap_cons]
  rfl
set_option maxHeartbeats 1000000 in
set_option maxRecDepth 100000 in
theorem ins_room (G : Nat -> Prop) (w : World) (g c : Nat) (cur : Array Value) (es : List Ent) (x : Ent) (b i : Nat) (hG : G g) (hn : es.length < 4294967295)
 (hg : w.heap[g]? = some (.cells cur 193 (0, 0))) (hc1 : es.length <= c) (hc2 : c <= maxLen) (hcs : cur.size = c * 2) (htk : cur.toList.take (es.length * 2) = es.flatMap encEnt.enc)
 (hx : w.heap[b]? = some (.cells #[.string x.1, .int .i64 x.2] 193 (0, 0))) (hbg : b ≠ g) (hi : i < es.length) (hroom : es.length + 1 <= c) :
 Calls Tryz.prog 210 #[.slice (some ⟨g, 0, none⟩) es.length c, .int .i64 i, .slice (some ⟨b, 0, none⟩) 1 1] w fun e w' =>
  e = .returned (.slice (some ⟨g, 0, none⟩) (es.length + 1) c) ∧ Own encEnt 193 G w' (.slice (some ⟨g, 0, none⟩) (es.length + 1) c) (es.take i ++ x :: es.drop i) ∧ Keeps (fun k => k = g) w w' := by
 obtain ⟨inf, hi', his, hib, hiz⟩ := info_ent
 have hk2e : encEnt.k = 2 := rfl
 have hcm := hc2
 have hsx : SlAt encEnt (fun k => k = b) w (some ⟨b, 0, none⟩) 1 [x] := by
  obtain ⟨p, c, h, hs⟩ := (Own.mk (E := encEnt) (l := [x]) (cap := 1) (S := fun k => k = b) rfl hx (Nat.le_refl _) (by decide) rfl rfl).sl
  cases h; exact hs
 have hse : SlAt encEnt (fun k => k = g) w (some ⟨g, 0, none⟩) c es := by
  obtain ⟨p, c', h, hs⟩ := (Own.mk (E := encEnt) (l := es) (cap := c) (S := fun k => k = g) rfl hg hc1 hc2 hcs htk).sl
  cases h; exact hs
 unfold maxLen at hc2
 have e1 : subAt 2 (some ⟨g, 0, none⟩) c (i + 1) = some ⟨g, (i + 1) * 2, none⟩ := by
  unfold subAt; rw [if_neg (by omega)]; simp [add_lit]
 have e2 : subAt 2 (some ⟨g, 0, none⟩) c i = some ⟨g, i * 2, none⟩ := by
  unfold subAt; rw [if_neg (by omega)]; simp [add_lit]
 have hsl0 := fun wx => run_slice_l (P := Tryz.prog) 109 193 2 Tryz.underlying109 (by kernel_rfl) (some ⟨g, 0, none⟩) es.length c i (by omega) wx (by omega)
 have hsl1 := fun wx => run_slice_l (P := Tryz.prog) 109 193 2 Tryz.underlying109 (by kernel_rfl) (some ⟨g, 0, none⟩) (es.length + 1) c (i + 1) (by omega) wx (by omega)
 have hsl2 := fun wx => run_slice_l (P := Tryz.prog) 109 193 2 Tryz.underlying109 (by kernel_rfl) (some ⟨g, 0, none⟩) (es.length + 1) c i (by omega) wx (by omega)
 rw [e1, show ((i + 1 : Nat) : Int) = (i : Int) + 1 by omega, show es.length + 1 - (i + 1) = es.length - i by omega] at hsl1
 rw [e2] at hsl0 hsl2
 clear e1 e2
 go_enter Tryz.func210, Tryz.ntmps210
 go_wp2_with fail
 rw [run_callFunc_extern Tryz.func248 (by kernel_rfl) (by kernel_rfl) (by kernel_rfl) (e := Extern.SlicesOverlaps.overlaps #[109, 109] #[4]) (by kernel_rfl),
  Lib.run_overlaps_apart w 109 4 193 Tryz.underlying109 2 (fun w => by simp [sizeOf, typeInfo, hi', his, hk2e]) ⟨b, 0, none⟩ ⟨g, (i + 1) * 2, none⟩ 1 1 (es.length - i) (c - (i + 1)) hbg 193 193 2 cur.size
   (by simp [World.shape?, hx]) (by simp [World.shape?, hg]) (by omega) (by simp [World.frozen?, hx]) (by simp [World.frozen?, hx])]
 simp only [Result.andThen]
 rw [Oper.upon_value]
 go_wp2_with fail
 have hsum : IntKind.i64.wrap ((i : Int) + 1) = (i : Int) + 1 := by rw [IntKind.wrap_i64]; omega
 go_still_tail 8, (by kernel_rfl)
 clear hsum
 change wpList _ _ _ _ _ w.drew
 have hg1 : w.drew.heap[g]? = some (.cells cur 193 (0, 0)) := hg
 have hk1 : Keeps (fun k => k = g) w w.drew := (Keeps.refl _ w).drew
 have hsub := (hse.sub i es.length (by omega) (Nat.le_refl _)).keepN (Keeps.refl NoB w).drew
 rw [List.take_length] at hsub
 have e2 : subAt encEnt.k (some ⟨g, 0, none⟩) c i = some ⟨g, i * 2, none⟩ := by
  unfold subAt; rw [if_neg (by omega)]; simp [add_lit, hk2e]
 rw [e2] at hsub
 clear e2
 generalize w.drew = w1 at *
 refine wpl_copy (E := encEnt) rfl (.tmp 73) (.tmp 76) _ _ rfl Tryz.underlying109 hi' his _ _ _ _ rfl _ _ hg1 rfl hsub ?_ ?_ ?_
 ·simp [Nat.min_def]; omega
 ·rw [hcs, hk2e, List.length_drop]; omega
 rw [List.length_drop, hk2e]
 obtain ⟨cur2, hcur2⟩ : ∃ cur2, cur2 = (List.take ((i + 1) * 2) cur.toList ++ (List.flatMap encEnt.enc (List.drop i es) ++ List.drop ((i + 1) * 2 + (es.length - i) * 2) cur.toList)).toArray := ⟨_, rfl⟩
 rw [<- hcur2]
 have hg2 := setRow_heap w1 g cur cur2 _ (0, 0) hg1
 have hk2 := hk1.setRow (g := g) (Or.inl rfl) cur2
 have Hcur2 := Lib.hid hcur2
 clear hcur2
 have hsx2 := hsx.keep hk2 (fun k hk _ e => hbg (by rw [<- hk, e]))
 generalize w1.setRow g cur2 = w2 at *
 have hcl : cur2.size = c * 2 := by
  have hL : cur.toList.length = c * 2 := by rw [Array.length_toList]; exact hcs
  rw [Hcur2.out, List.size_toArray, List.length_append, List.length_append, List.length_take, List.length_drop, hL, encEnt.flat_len, hk2e, List.length_drop]; omega
 go_wp2_with (refine wpl_copy (E := encEnt) rfl (.tmp 80) (.tmp 81) _ _ rfl Tryz.underlying109 hi' his _ _ _ _ rfl _ _ hg2 rfl hsx2 ?_ ?_ ?_)
 ·simp [Nat.min_def]; omega
 ·rw [hcl, hk2e]; simp only [List.length_singleton]; omega
 obtain ⟨cur3, hcur3⟩ : ∃ cur3, cur3 = (List.take (i * 2) cur2.toList ++ (encEnt.enc x ++ List.drop (i * 2 + 2) cur2.toList)).toArray := ⟨_, rfl⟩
 rw [<- hcur3]
 have hg3 := setRow_heap w2 g cur2 cur3 _ (0, 0) hg2
 have hk3 := hk2.setRow (g := g) (Or.inl rfl) cur3
 have Hcur3 := Lib.hid hcur3
 clear hcur3
 generalize w2.setRow g cur3 = w3 at *
 go_ret
 have hL : cur.toList.length = c * 2 := by rw [Array.length_toList]; exact hcs
 have hAl : (List.flatMap encEnt.enc (es.take i)).length = i * 2 := by rw [encEnt.flat_len, hk2e, List.length_take]; omega
 have hVl : (List.flatMap encEnt.enc [x]).length = 2 := rfl
 have hBl : (List.flatMap encEnt.enc (es.drop i)).length = (es.length - i) * 2 := by rw [encEnt.flat_len, hk2e, List.length_drop]
 have htA : cur.toList.take (i * 2) = List.flatMap encEnt.enc (es.take i) := by
  rw [encEnt.flat_take, <- htk, List.take_take, hk2e, Nat.min_eq_left (by omega)]
 have hsp := splice_back cur.toList (List.flatMap encEnt.enc (es.take i)) (List.flatMap encEnt.enc [x]) (List.flatMap encEnt.enc (es.drop i)) cur2.toList cur3.toList
  (by rw [hAl]; exact htA) (by rw [hAl, hVl, hBl, hL]; omega)
  (by rw [hAl, hVl, hBl, Hcur2.out]; simp [Nat.add_mul]) (by rw [hAl, hVl, Hcur3.out]; simp)
 refine ⟨rfl, ?_, hk3⟩
 have hll : (es.take i ++ x :: es.drop i).length = es.length + 1 := by simp; omega
 rw [<- hll]
 refine Own.mk hG hg3 (by rw [hll]; omega) hcm ?_ ?_
 ·rw [<- Array.length_toList, hsp.2, hL, hk2e]
 ·have := hsp.1
  rw [hAl, hVl, hBl] at this
  rw [hll, hk2e, show (es.length + 1) * 2 = i * 2 + 2 + (es.length - i) * 2 by omega, this, List.flatMap_append, List.flatMap_cons]
  rfl
set_option maxHeartbeats 1000000 in
set_option maxRecDepth 100000 in
theorem del_own (G : Nat -> Prop) (w : World) (g c : Nat) (cur : Array Value) (es : List Ent) (i : Nat) (hG : G g) (hn : es.length < 4294967295)
 (hg : w.heap[g]? = some (.cells cur 193 (0, 0))) (hc1 : es.length <= c) (hc2 : c <= maxLen) (hcs : cur.size = c * 2) (htk : cur.toList.take (es.length * 2) = es.flatMap encEnt.enc) (hi : i < es.length) :
 Calls Tryz.prog 211 #[.slice (some ⟨g, 0, none⟩) es.length c, .int .i64 i, .int .i64 ((i : Int) + 1)] w fun e w' =>
  e = .returned (.slice (some ⟨g, 0, none⟩) (es.length - 1) c) ∧ Own encEnt 193 G w' (.slice (some ⟨g, 0, none⟩) (es.length - 1) c) (es.take i ++ es.drop (i + 1)) ∧ Keeps (fun k => k = g) w w' := by
 obtain ⟨inf, hi', his, hib, hiz⟩ := info_ent
 have hk2e : encEnt.k = 2 := rfl
 have hcm := hc2
 have hse : SlAt encEnt (fun k => k = g) w (some ⟨g, 0, none⟩) c es := by
  obtain ⟨p, c', h, hs⟩ := (Own.mk (E := encEnt) (l := es) (cap := c) (S := fun k => k = g) rfl hg hc1 hc2 hcs htk).sl
  cases h; exact hs
 unfold maxLen at hc2
 have hsub := (hse.sub (i + 1) es.length (by omega) (Nat.le_refl _)).keepN (Keeps.refl NoB w).drew
 rw [List.take_length] at hsub
 have hsl1 := fun wx => run_slice_l (P := Tryz.prog) 109 193 2 Tryz.underlying109 (by kernel_rfl) (some ⟨g, 0, none⟩) es.length c (i + 1) (by omega) wx (by omega)
 rw [show ((i + 1 : Nat) : Int) = (i : Int) + 1 by omega] at hsl1
 have hsl2 := fun wx => run_slice_h (P := Tryz.prog) 109 193 Tryz.underlying109 (by kernel_rfl) g 0 es.length c i (by omega) wx (by omega)
 have hne : ((i : Int) == (i : Int) + 1) = false := by rw [beq_eq_false_iff_ne]; omega
 go_enter Tryz.func211, Tryz.ntmps211
 go_wp2_with fail
 go_still_tail 6, (by kernel_rfl)
 change wpList _ _ _ _ _ w.drew
 have hg1 : w.drew.heap[g]? = some (.cells cur 193 (0, 0)) := hg
 have hk1 : Keeps (fun k => k = g) w w.drew := (Keeps.refl _ w).drew
 generalize w.drew = w1 at *
 have hdl : (es.drop (i + 1)).length = es.length - (i + 1) := by simp
 have hrun := run_append_inplace tEnt 109 g i c cur hg1 hcs hsub (by omega)
 rw [hdl, hk2e, show i + (es.length - (i + 1)) = es.length - 1 by omega] at hrun
 obtain ⟨cur2, hcur2⟩ : ∃ cur2, cur2 = (List.take (i * 2) cur.toList ++ List.flatMap encEnt.enc (List.drop (i + 1) es) ++ List.drop (i * 2 + (es.length - (i + 1)) * 2) cur.toList).toArray := ⟨_, rfl⟩
 rw [<- hcur2] at hrun
 have hg2 := setRow_heap w1 g cur cur2 _ (0, 0) hg1
 have hk2 := hk1.setRow (g := g) (Or.inl rfl) cur2
 have Hcur2 := Lib.hid hcur2
 clear hcur2
 refine Lib.wpList_append_run _ rfl _ _ _ _ rfl _ _ rfl rfl _ _ hrun ?_
 generalize w1.setRow g cur2 = w2 at *
 have hL : cur.toList.length = c * 2 := by rw [Array.length_toList]; exact hcs
 have hcl : cur2.size = c * 2 := by
  rw [Hcur2.out, List.size_toArray, List.length_append, List.length_append, List.length_take, List.length_drop, hL, encEnt.flat_len, hk2e, hdl]; omega
 have e1 : es.length - (es.length - 1) = 1 := by omega
 have hcr := run_clear tEnt 0 g ((es.length - 1) * 2) (es.length - (es.length - 1)) (c - (es.length - 1)) cur2 hg2 (by rw [hk2e, hcl]; omega) (by omega)
 obtain ⟨cur3, hcur3⟩ : ∃ cur3, cur3 = (List.take ((es.length - 1) * 2) cur2.toList ++ List.flatMap encEnt.enc (List.replicate (es.length - (es.length - 1)) (ByteArray.empty, 0)) ++ List.drop ((es.length - 1) * 2 + (es.length - (es.length - 1)) * encEnt.k) cur2.toList).toArray := ⟨_, rfl⟩
 rw [<- hcur3] at hcr
 rw [e1, hk2e] at hcur3
 clear e1
 have hg3 := setRow_heap w2 g cur2 cur3 _ (0, 0) hg2
 have hk3 := hk2.setRow (g := g) (Or.inl rfl) cur3
 have Hcur3 := Lib.hid hcur3
 clear hcur3
 go_wp2_with (refine wpl_clear rfl _ _ rfl _ rfl _ _ hcr ?_)
 go_ret
 refine ⟨rfl, ?_, hk3⟩
 have hL2 : cur2.toList.length = c * 2 := by rw [Array.length_toList]; exact hcl
 have hAl : (List.flatMap encEnt.enc (es.take i)).length = i * 2 := by rw [encEnt.flat_len, hk2e, List.length_take]; omega
 have hBl : (List.flatMap encEnt.enc (es.drop (i + 1))).length = (es.length - (i + 1)) * 2 := by rw [encEnt.flat_len, hk2e, hdl]
 have htA : cur.toList.take (i * 2) = List.flatMap encEnt.enc (es.take i) := by
  rw [encEnt.flat_take, <- htk, List.take_take, hk2e, Nat.min_eq_left (by omega)]
 have hll : (es.take i ++ es.drop (i + 1)).length = es.length - 1 := by simp; omega
 have ht2 : cur2.toList.take ((es.length - 1) * 2) = List.flatMap encEnt.enc (es.take i ++ es.drop (i + 1)) := by
  rw [Hcur2.out, htA, List.flatMap_append]
  rw [show (es.length - 1) * 2 = (List.flatMap encEnt.enc (es.take i) ++ List.flatMap encEnt.enc (es.drop (i + 1))).length by rw [List.length_append, hAl, hBl]; omega]
  exact List.take_left
 rw [<- hll]
 refine Own.mk hG hg3 (by rw [hll]; omega) hcm ?_ ?_
 ·rw [Hcur3.out, List.size_toArray, List.length_append, List.length_append, List.length_take, List.length_drop, hL2, hk2e]
  simp only [List.replicate_one, List.flatMap_singleton, encEnt, List.length_cons, List.length_nil]; omega
 ·rw [hll, hk2e, <- ht2, Hcur3.out]
  have : (List.take ((es.length - 1) * 2) cur2.toList).length = (es.length - 1) * 2 := by rw [List.length_take, hL2]; omega
  rw [List.append_assoc]
  conv => lhs; arg 1; rw [<- this]
  exact List.take_left
def DirTo (G : Nat -> Prop) (w w' : World) (a : Addr) (es' : List Ent) : Prop :=
 ∃ v', IsDir G w' a v' es' ∧ Keeps G (w.setCell a v') w'
theorem DirTo.same {G : Nat -> Prop} {w w' : World} {a : Addr} {v : Value} {es : List Ent} (h : IsDir G w a v es) (hk : Keeps NoB w w') : DirTo G w w' a es := by
 have hb := lt_of_cell h.cell
 refine ⟨v, ⟨(hk.cell hb (fun h => h)).trans h.cell, (hk.frozen hb (fun h => h)).trans h.free, h.spot, h.own.keep hk (fun _ _ h => h), h.rising, h.names, h.apart⟩, ?_⟩
 rw [setCell_self h.cell]
 exact hk.of_none
theorem DirTo.store {G : Nat -> Prop} {w w1 w2 : World} {a : Addr} {v v' : Value} {es es' : List Ent} (h : IsDir G w a v es) (hk : Keeps NoB w w1) (ho : Own encEnt 193 G w2 v' es')
 (hk2 : Keeps (fun g => v.ownBlock = some g) w1 w2) (hf : ∀ g, v'.ownBlock = some g -> v.ownBlock = some g ∨ w1.heap.size <= g) (hr : Rising es') (hn : ∀ e ∈ es', okName e.1 = true) :
 DirTo G w (w2.setCell a v') a es' := by
 have hb := lt_of_cell h.cell
 have hb1 : a.block < w1.heap.size := Nat.lt_of_lt_of_le hb hk.size
 have hap : ¬ v'.ownBlock = some a.block := fun e => (hf _ e).elim h.apart (fun h => by omega)
 have hc2 : w2.cell? a = some v := ((hk2.cell hb1 h.apart).trans (hk.cell hb (fun h => h))).trans h.cell
 have hgo : ∀ g, v.ownBlock = some g -> G g := h.own.2
 refine ⟨v', ⟨?_, ?_, h.spot, ho.keep ((Keeps.refl (fun g => g = a.block) w2).setCell (Or.inl rfl) v') (fun g hg e => hap (by rw [hg, e])), hr, hn, hap⟩, ?_⟩
 ·exact World.cell?_setCell_same _ _ _ hc2
 ·rw [World.frozen?_setCell]
  exact ((hk2.frozen hb1 h.apart).trans (hk.frozen hb (fun h => h))).trans h.free
 ·exact (hk.of_none.trans (hk2.mono (fun g _ hg => hgo g hg))).setCell2 a v'
theorem ins_any (G : Nat -> Prop) (w : World) (v : Value) (es : List Ent) (x : Ent) (b i : Nat) (ho : Own encEnt 193 G w v es) (hG : G w.heap.size) (hn : es.length < 4294967295)
 (hx : w.heap[b]? = some (.cells #[.string x.1, .int .i64 x.2] 193 (0, 0))) (hb : ¬ v.ownBlock = some b) (hi : i <= es.length) :
 Calls Tryz.prog 210 #[v, .int .i64 i, .slice (some ⟨b, 0, none⟩) 1 1] w fun e w' =>
  ∃ v', e = .returned v' ∧ Own encEnt 193 G w' v' (es.take i ++ x :: es.drop i) ∧ Keeps (fun g => v.ownBlock = some g) w w' ∧ (∀ g, v'.ownBlock = some g -> v.ownBlock = some g ∨ w.heap.size <= g) := by
 by_cases he : i = es.length
 ·subst he
  refine (ins_end G w v es x b ho hG hn hx).mono ?_
  rintro e w' ⟨v', rfl, h1, h2, h3⟩
  exact ⟨v', rfl, by rw [List.take_length, List.drop_length]; exact h1, h2, h3⟩
 ·rcases ho.cases with ⟨rfl, rfl⟩ | ⟨g, c, cur, rfl, hSg, hg, hcap, hmax, hsz, htk⟩
  ·simp at hi; exact absurd hi he
  ·by_cases hroom : es.length + 1 <= c
   ·refine (ins_room G w g c cur es x b i hSg hn hg hcap hmax hsz htk hx (fun e => hb (by rw [e]; rfl)) (by omega) hroom).mono ?_
    rintro e w' ⟨rfl, h1, h2⟩
    exact ⟨_, rfl, h1, h2.mono (fun k _ hk => by rw [hk]; rfl), fun k hk => Or.inl hk⟩
   ·refine (ins_grow G w g c cur es x b i hG hn hg hcap hmax hsz htk hx (by omega) (by omega)).mono ?_
    rintro e w' ⟨v', rfl, h1, h2, h3⟩
    exact ⟨_, rfl, h1, h2.of_none, fun k hk => Or.inr (h3 k hk)⟩
set_option maxHeartbeats 1000000 in
theorem put_any (G : Nat -> Prop) (w : World) (a : Addr) (v : Value) (es : List Ent) (name : ByteArray) (n : Int) (h : IsDir G w a v es) (hn : es.length < 4294967295) (hG : ∀ g, w.heap.size <= g -> G g) :
 Calls Tryz.prog 162 #[.pointer (some a), .string name, .int .i64 n] w fun e w' =>
  e = .returned (.int .i64 (putErr es name)) ∧ DirTo G w w' a (putTo es name n) := by
 have hfind := find_any G w a v es name h (by omega)
 have hlt := lt_of_cell h.cell
 by_cases hlong : 255 < name.size
 ·have he : putErr es name = 18 := by simp [putErr, hlong]
  have He := Lib.hid he
  clear he
  go_enter Tryz.func162, Tryz.ntmps162
  go_wp2_with (go_at_call 208; refine hfind.mono ?_; rintro e w1 ⟨rfl, hk1⟩)
  go_ret
  exact ⟨by rw [He.out]; rfl, by rw [putTo, if_neg (by rw [He.out]; decide)]; exact DirTo.same h hk1⟩
 ·by_cases hok : okName name = true
  ·cases hhas : entHas es name with
   | true =>
     have he : putErr es name = 13 := by simp [putErr, hlong, hok, hhas]
     have He := Lib.hid he
     rw [hhas] at hfind
     clear he hhas
     go_enter Tryz.func162, Tryz.ntmps162
     go_wp2_with (first | (go_at_call 208; refine hfind.mono ?_; rintro e w1 ⟨rfl, hk1⟩) | (go_at_call 209; refine (name_any _ _).mono ?_; rintro e w2 ⟨rfl, rfl⟩))
     go_ret
     exact ⟨by rw [He.out]; rfl, by rw [putTo, if_neg (by rw [He.out]; decide)]; exact DirTo.same h hk1⟩
   | false =>
     have he : putErr es name = 0 := by simp [putErr, hlong, hok, hhas]
     have He := Lib.hid he
     have Hhas := Lib.hid hhas
     rw [hhas] at hfind
     have Hfind := Lib.hid hfind
     clear he hhas hfind
     go_enter Tryz.func162, Tryz.ntmps162
     go_wp2_with (fail)
     refine Hfind.out.mono ?_
     rintro e w1 ⟨rfl, hk1⟩
     have hc := (hk1.cell hlt (fun h => h)).trans h.cell
     have hfz := (hk1.frozen hlt (fun h => h)).trans h.free
     have ho1 := h.own.keep hk1 (fun _ _ h => h)
     have ho2 : Own encEnt 193 G (w1.alloc (.cells #[.string name, .int .i64 n] 193)) v es := ho1.keep ((Keeps.refl NoB w1).alloc _) (fun _ _ h => h)
     have hins := ins_any G _ v es (name, n) w1.heap.size (lb es name) ho2 (hG _ (by have := hk1.size; simp; omega)) hn (heap_alloc_new w1 _) (fun e => absurd (ho1.lt _ e) (by omega)) (lb_le es name)
     have Hins := Lib.hid hins
     clear hins
     go_wp2_with (first | (go_at_call 209; refine (name_any _ _).mono ?_; rintro e w2 ⟨rfl, rfl⟩) | (go_at_call 210; fail))
     refine Hins.out.mono ?_
     rintro e w3 ⟨v', rfl, ho3, hk3, hf3⟩
     have hlt1 : a.block < w1.heap.size := Nat.lt_of_lt_of_le hlt hk1.size
     have hap := h.apart
     have hc3 : w3.cell? a = some v := (hk3.cell (by simp; omega) hap).trans (((Keeps.refl NoB w1).alloc _).cell hlt1 (fun h => h) |>.trans hc)
     have hf4 : w3.frozen? a = false := (hk3.frozen (by simp; omega) hap).trans (((Keeps.refl NoB w1).alloc _).frozen hlt1 (fun h => h) |>.trans hfz)
     rw [put_at h.rising name n Hhas.out] at ho3
     have hto := DirTo.store h (hk1.alloc _) ho3 hk3 hf3 (h.rising.put name n) (fun e he => by
      simp only [entPut, List.mem_append, List.mem_filter, List.mem_singleton] at he
      rcases he with (⟨he, _⟩ | rfl) | ⟨he, _⟩
      ·exact h.names e he
      ·exact hok
      ·exact h.names e he)
     have Hto := Lib.hid hto
     clear hto hap
     obtain ⟨p3, c3, hv3, _⟩ := ho3.sl
     subst hv3
     go_wp2_with fail
     go_ret
     exact ⟨by rw [He.out]; rfl, by rw [putTo, if_pos He.out]; exact Hto.out⟩
  ·have hok' : okName name = false := by simpa using hok
   have he : putErr es name = 11 := by simp [putErr, hlong, hok']
   have He := Lib.hid he
   clear he
   go_enter Tryz.func162, Tryz.ntmps162
   go_wp2_with (first | (go_at_call 208; refine hfind.mono ?_; rintro e w1 ⟨rfl, hk1⟩) | (go_at_call 209; refine (name_any _ _).mono ?_; rintro e w2 ⟨rfl, rfl⟩))
   go_ret
   exact ⟨by rw [He.out]; rfl, by rw [putTo, if_neg (by rw [He.out]; decide)]; exact DirTo.same h hk1⟩
set_option maxHeartbeats 1000000 in
theorem drop_any (G : Nat -> Prop) (w : World) (a : Addr) (v : Value) (es : List Ent) (name : ByteArray) (h : IsDir G w a v es) (hn : es.length < 4294967295) :
 Calls Tryz.prog 163 #[.pointer (some a), .string name] w fun e w' =>
  e = .returned (.int .i64 (hasErr es name)) ∧ DirTo G w w' a (entDel es name) := by
 have hfind := find_any G w a v es name h (by omega)
 have hlt := lt_of_cell h.cell
 have hhas := lb_has h.rising name
 cases hh : entHas es name with
 | false =>
   have He : Hid (hasErr es name = 12) := by rw [hasErr, hh]; rfl
   have hse : entDel es name = es := by
    unfold entDel
    refine List.filter_eq_self.2 fun x hx => ?_
    cases hc : decide (x.1 = name) with
    | false => rfl
    | true =>
      have : entHas es name = true := List.any_eq_true.2 ⟨x, hx, hc⟩
      rw [this] at hh; cases hh
   have Hse := Lib.hid hse
   rw [hh] at hfind
   clear hh hse hhas
   go_enter Tryz.func163, Tryz.ntmps163
   go_wp2_with (go_at_call 208; refine hfind.mono ?_; rintro e w1 ⟨rfl, hk1⟩)
   go_ret
   exact ⟨by rw [He.out]; rfl, by rw [Hse.out]; exact DirTo.same h hk1⟩
 | true =>
   have He : Hid (hasErr es name = 0) := by rw [hasErr, hh]; rfl
   rw [hh] at hhas
   cases hl : es[lb es name]? with
   | none => rw [hl] at hhas; cases hhas
   | some x =>
     have Hdel := Lib.hid (del_at h.rising name hh)
     have hll := (List.getElem?_eq_some_iff.1 hl).1
     rcases h.own.cases with ⟨_, h0⟩ | ⟨g, c, cur, hv, hSg, hg, hcap, hmax, hsz, htk⟩
     ·subst h0; simp at hl
     ·subst hv
      rw [hh] at hfind
      have Hfind := Lib.hid hfind
      clear hh hhas hl hfind
      go_enter Tryz.func163, Tryz.ntmps163
      go_wp2_with (fail)
      refine Hfind.out.mono ?_
      rintro e w1 ⟨rfl, hk1⟩
      have hlt1 : a.block < w1.heap.size := Nat.lt_of_lt_of_le hlt hk1.size
      have hc := (hk1.cell hlt (fun h => h)).trans h.cell
      have hfz := (hk1.frozen hlt (fun h => h)).trans h.free
      have hg1 := (hk1.block g (lt_of_block hg) (fun h => h)).trans hg
      have hdel := del_own G w1 g c cur es (lb es name) hSg hn hg1 hcap hmax hsz htk hll
      rw [Hdel.out] at hdel
      have Hdel2 := Lib.hid hdel
      clear hdel
      go_wp2_with (go_at_call 211; fail)
      refine Hdel2.out.mono ?_
      rintro e w2 ⟨rfl, ho2, hk2⟩
      have hap : ¬ a.block = g := fun e => h.apart (by rw [e]; rfl)
      have hc2 : w2.cell? a = some _ := (hk2.cell hlt1 hap).trans hc
      have hf2 : w2.frozen? a = false := (hk2.frozen hlt1 hap).trans hfz
      have hto := DirTo.store h hk1 ho2 (hk2.mono (fun k _ hk => by rw [hk]; rfl)) (fun k hk => Or.inl hk) (h.rising.del name) (fun e he => h.names e (List.mem_filter.1 he).1)
      have Hto := Lib.hid hto
      clear hto hap
      go_wp2_with fail
      go_ret
      exact ⟨by rw [He.out]; rfl, Hto.out⟩
def IsD (w : World) (a : Addr) (v : Value) (es : List Ent) : Prop := IsDir (fun g => v.ownBlock = some g) w a v es
theorem IsDir.d {G : Nat -> Prop} {w : World} {a : Addr} {v : Value} {es : List Ent} (h : IsDir G w a v es) : IsD w a v es :=
 ⟨h.cell, h.free, h.spot, h.own.mono (fun _ hg _ => hg), h.rising, h.names, h.apart⟩
theorem IsD.any {G : Nat -> Prop} {w : World} {a : Addr} {v : Value} {es : List Ent} (h : IsD w a v es) (hG : ∀ g, v.ownBlock = some g -> G g) : IsDir G w a v es :=
 ⟨h.cell, h.free, h.spot, h.own.mono (fun g hg _ => hG g hg), h.rising, h.names, h.apart⟩
theorem IsD.lt {w : World} {a : Addr} {v : Value} {es : List Ent} (h : IsD w a v es) : a.block < w.heap.size := lt_of_cell h.cell
theorem IsD.ownlt {w : World} {a : Addr} {v : Value} {es : List Ent} (h : IsD w a v es) : ∀ g, v.ownBlock = some g -> g < w.heap.size := h.own.lt
theorem IsD.keep {F : Nat -> Prop} {w w' : World} {a : Addr} {v : Value} {es : List Ent} (h : IsD w a v es) (hk : Keeps F w w') (ha : ¬ F a.block) (ho : ∀ g, v.ownBlock = some g -> ¬ F g) : IsD w' a v es :=
 ⟨(hk.cell h.lt ha).trans h.cell, (hk.frozen h.lt ha).trans h.free, h.spot, h.own.keep hk ho, h.rising, h.names, h.apart⟩
def DTo (w w' : World) (a : Addr) (v : Value) (es' : List Ent) : Prop :=
 ∃ v', IsD w' a v' es' ∧ Keeps (fun g => v.ownBlock = some g) (w.setCell a v') w' ∧ ∀ g, v'.ownBlock = some g -> v.ownBlock = some g ∨ w.heap.size <= g
theorem DirTo.d {w w' : World} {a : Addr} {v : Value} {es' : List Ent} (h : DirTo (fun g => v.ownBlock = some g ∨ w.heap.size <= g) w w' a es') : DTo w w' a v es' := by
 obtain ⟨v', h1, h2⟩ := h
 refine ⟨v', h1.d, h2.mono (fun g hg h => h.elim id (fun h => ?_)), h1.own.2⟩
 have : (w.setCell a v').heap.size = w.heap.size := by simp [World.setCell]
 omega
theorem put_d (w : World) (a : Addr) (v : Value) (es : List Ent) (name : ByteArray) (n : Int) (h : IsD w a v es) (hn : es.length < 4294967295) :
 Calls Tryz.prog 162 #[.pointer (some a), .string name, .int .i64 n] w fun e w' => e = .returned (.int .i64 (putErr es name)) ∧ DTo w w' a v (putTo es name n) :=
 (put_any _ w a v es name n (h.any (G := fun g => v.ownBlock = some g ∨ w.heap.size <= g) (fun g hg => .inl hg)) hn (fun g hg => .inr hg)).mono fun _ _ ⟨h1, h2⟩ => ⟨h1, h2.d⟩
theorem drop_d (w : World) (a : Addr) (v : Value) (es : List Ent) (name : ByteArray) (h : IsD w a v es) (hn : es.length < 4294967295) :
 Calls Tryz.prog 163 #[.pointer (some a), .string name] w fun e w' => e = .returned (.int .i64 (hasErr es name)) ∧ DTo w w' a v (entDel es name) :=
 (drop_any _ w a v es name (h.any (G := fun g => v.ownBlock = some g ∨ w.heap.size <= g) (fun g hg => .inl hg)) hn).mono fun _ _ ⟨h1, h2⟩ => ⟨h1, h2.d⟩
theorem DTo.keeps {F : Nat -> Prop} {W w w' : World} {a : Addr} {v : Value} {es' : List Ent} (h : DTo w w' a v es') (hk : Keeps F W w) (ha : F a.block ∨ W.heap.size <= a.block) (hv : ∀ g, v.ownBlock = some g -> F g ∨ W.heap.size <= g) : Keeps F W w' := by
 obtain ⟨v', _, h2, _⟩ := h
 exact (hk.setCell ha v').step h2 hv
theorem DTo.size {w w' : World} {a : Addr} {v : Value} {es' : List Ent} (h : DTo w w' a v es') : w.heap.size <= w'.heap.size := by
 obtain ⟨v', _, h2, _⟩ := h
 have := h2.size
 simpa [World.setCell] using this
theorem okName_small {s : ByteArray} (h : okName s = true) : ¬ 255 < s.size := by simp [okName] at h; omega
theorem putErr_zero {l : List Ent} {name : ByteArray} : putErr l name = 0 ↔ okName name = true ∧ entHas l name = false := by
 unfold putErr
 constructor
 ·intro h
  split at h; · cases h
  split at h; · cases h
  split at h; · cases h
  ·next h2 h3 => exact ⟨by simpa using h2, by simpa using h3⟩
 ·rintro ⟨h1, h2⟩
  rw [if_neg (okName_small h1), if_neg (by simp [h1]), if_neg (by simp [h2])]
theorem IsD.new (w : World) (t : TypeId) : IsD (w.alloc (.cells #[.slice none 0 0] t)) ⟨w.heap.size, 0, none⟩ (.slice none 0 0) [] :=
 ⟨cell_of_row _ _ _ _ _ _ (heap_alloc_new w _), frozen_of_row _ _ _ _ _ (heap_alloc_new w _), rfl, Own.nil _ _ _ _, List.Pairwise.nil, (fun _ h => by cases h), (fun h => by simp [Value.ownBlock] at h)⟩
end Go.Proofs.YtnaenhekjdmlaaaGreatDoor
namespace Go.Proofs.YtnaenhekjdmlaaaGreatDoor
structure Nd where
 kind : Int
 mode : Int
 holds : Int
 data : ByteArray
 ents : List Ent
def Nd.gone : Nd := ⟨0, 0, 0, ⟨#[]⟩, []⟩
def Nd.setHolds (n : Nd) (h : Int) : Nd := ⟨n.kind, n.mode, h, n.data, n.ents⟩
def Nd.setEnts (n : Nd) (l : List Ent) : Nd := ⟨n.kind, n.mode, n.holds, n.data, l⟩
abbrev Nds := List Nd
def nd (d : Nds) (i : Int) : Nd := if 0 <= i then (d[i.toNat]?).getD Nd.gone else Nd.gone
def has (d : Nds) (i : Int) : Prop := (nd d i).kind ≠ 0
instance (d : Nds) (i : Int) : Decidable (has d i) := inferInstanceAs (Decidable (_ ≠ _))
def upd (d : Nds) (i : Int) (n : Nd) : Nds := if 0 <= i then d.set i.toNat n else d
def sumBy (f : Nd -> Nat) (d : Nds) : Nat := (d.map f).sum
def namesOf (i : Int) (n : Nd) : Nat := n.ents.countP fun e => decide (e.2 = i)
def cnt (d : Nds) (i : Int) : Nat := sumBy (namesOf i) d
def links (d : Nds) (i : Int) : Nat := (if i = 1 then 1 else 0) + cnt d i
def room1 (n : Nd) : Nat := n.data.size + entSize n.ents
def used (d : Nds) : Nat := sumBy room1 d
def here1 (n : Nd) : Nat := if n.kind = 0 then 0 else 1
def count (d : Nds) : Nat := sumBy here1 d
def mass1 (n : Nd) : Nat := 1 + n.holds.toNat + n.ents.length
def mass (d : Nds) : Nat := sumBy mass1 d
theorem nd_gone {d : Nds} {i : Int} (h : ¬ (0 <= i ∧ i.toNat < d.length)) : nd d i = Nd.gone := by
 unfold nd
 split
 ·rw [List.getElem?_eq_none (by omega)]; rfl
 ·rfl
theorem has_range {d : Nds} {i : Int} (h : has d i) : 0 <= i ∧ i.toNat < d.length := by
 by_cases hh : 0 <= i ∧ i.toNat < d.length
 ·exact hh
 ·unfold has at h; rw [nd_gone hh] at h; exact absurd rfl h
theorem nd_get {d : Nds} {i : Int} (h0 : 0 <= i) (h : i.toNat < d.length) : d[i.toNat]? = some (nd d i) := by
 unfold nd
 rw [if_pos h0, List.getElem?_eq_getElem h]; rfl
theorem nd_nat {d : Nds} {i : Nat} {n : Nd} (h : d[i]? = some n) : nd d i = n := by
 simp [nd, h]
theorem upd_length (d : Nds) (i : Int) (n : Nd) : (upd d i n).length = d.length := by
 unfold upd; split <;> simp
theorem nd_upd {d : Nds} {i : Int} (h0 : 0 <= i) (h : i.toNat < d.length) (n : Nd) (j : Int) : nd (upd d i n) j = if j = i then n else nd d j := by
 unfold nd upd
 rw [if_pos h0]
 by_cases hj : 0 <= j
 ·rw [if_pos hj, if_pos hj]
  by_cases e : j = i
  ·subst e; simp [h]
  ·have : i.toNat ≠ j.toNat := by omega
   simp [e, this]
 ·rw [if_neg hj, if_neg hj, if_neg (by omega)]
theorem sumBy_set (f : Nd -> Nat) (d : Nds) (i : Nat) (n o : Nd) (h : d[i]? = some o) : sumBy f (d.set i n) + f o = sumBy f d + f n := by
 induction d generalizing i with
 | nil => simp at h
 | cons a d ih =>
   cases i with
   | zero => simp at h; subst h; simp [sumBy]; omega
   | succ i =>
     simp at h
     have := ih i h
     simp [sumBy] at this ⊢
     omega
theorem sumBy_upd (f : Nd -> Nat) {d : Nds} {i : Int} (h0 : 0 <= i) (h : i.toNat < d.length) (n : Nd) : sumBy f (upd d i n) + f (nd d i) = sumBy f d + f n := by
 unfold upd
 rw [if_pos h0]
 exact sumBy_set f d _ n _ (nd_get h0 h)
theorem sumBy_append (f : Nd -> Nat) (d : Nds) (n : Nd) : sumBy f (d ++ [n]) = sumBy f d + f n := by
 simp [sumBy]
theorem sumBy_ge (f : Nd -> Nat) {d : Nds} {i : Int} (h0 : 0 <= i) (h : i.toNat < d.length) : f (nd d i) <= sumBy f d := by
 have := sumBy_upd f h0 h Nd.gone
 have hg := sumBy_upd (fun n => f n) h0 h (nd d i)
 have h2 : ∀ (l : Nds) (k : Nat) (o : Nd), l[k]? = some o -> f o <= sumBy f l := by
  intro l
  induction l with
  | nil => intro k o h; simp at h
  | cons a l ih =>
    intro k o h
    cases k with
    | zero => simp at h; subst h; simp [sumBy]
    | succ k =>
      simp at h
      have := ih k o h
      simp [sumBy] at this ⊢
      omega
 exact h2 d _ _ (nd_get h0 h)
theorem sumBy_zero {f : Nd -> Nat} {d : Nds} : sumBy f d = 0 ↔ ∀ n ∈ d, f n = 0 := by
 induction d with
 | nil => simp [sumBy]
 | cons a d ih =>
   simp only [sumBy, List.map_cons, List.sum_cons, List.mem_cons, forall_eq_or_imp] at ih ⊢
   rw [Nat.add_eq_zero_iff, ih]
theorem namesOf_pos {i : Int} {n : Nd} : 0 < namesOf i n ↔ ∃ e ∈ n.ents, e.2 = i := by
 simp [namesOf, List.countP_pos_iff]
theorem cnt_pos {d : Nds} {i : Int} : 0 < cnt d i ↔ ∃ j e, e ∈ (nd d j).ents ∧ e.2 = i := by
 rw [Nat.pos_iff_ne_zero, Ne, cnt, sumBy_zero]
 constructor
 ·intro h
  simp only [Classical.not_forall] at h
  obtain ⟨n, hn, hz⟩ := h
  obtain ⟨e, he, hi⟩ := namesOf_pos.1 (Nat.pos_of_ne_zero hz)
  obtain ⟨j, hj⟩ := List.mem_iff_getElem?.1 hn
  exact ⟨j, e, by rw [nd_nat hj]; exact he, hi⟩
 ·rintro ⟨j, e, he, hi⟩ h
  have hr : 0 <= j ∧ j.toNat < d.length := by
   by_cases hh : 0 <= j ∧ j.toNat < d.length
   ·exact hh
   ·rw [nd_gone hh] at he; cases he
  have := h (nd d j) (List.mem_of_getElem? (nd_get hr.1 hr.2))
  have h2 := namesOf_pos.2 ⟨e, he, hi⟩
  omega
def Garb (d : Nds) (i : Int) : Prop := has d i ∧ links d i = 0 ∧ (nd d i).holds = 0
def NoGarb (d : Nds) : Prop := ∀ i, ¬ Garb d i
def kill (d : Nds) (i : Int) : Nds := upd d i Nd.gone
inductive Kills : Nds -> Nds -> Prop
 | refl (d : Nds) : Kills d d
 | step {d d' : Nds} (i : Int) : Garb d i -> Kills (kill d i) d' -> Kills d d'
theorem Kills.trans {a b c : Nds} (h : Kills a b) (k : Kills b c) : Kills a c := by
 induction h with
 | refl => exact k
 | step i hi _ ih => exact .step i hi (ih k)
theorem Kills.one {d : Nds} {i : Int} (h : Garb d i) : Kills d (kill d i) := .step i h (.refl _)
theorem nd_kill {d : Nds} {i : Int} (h : has d i) (j : Int) : nd (kill d i) j = if j = i then Nd.gone else nd d j := nd_upd (has_range h).1 (has_range h).2 _ _
theorem kill_length (d : Nds) (i : Int) : (kill d i).length = d.length := upd_length _ _ _
theorem has_kill {d : Nds} {i j : Int} (h : has d i) : has (kill d i) j ↔ j ≠ i ∧ has d j := by
 unfold has
 rw [nd_kill h]
 by_cases e : j = i
 ·simp [e, Nd.gone]
 ·simp [e]
theorem cnt_kill {d : Nds} {i : Int} (h : has d i) (j : Int) : cnt (kill d i) j + namesOf j (nd d i) = cnt d j := by
 have := sumBy_upd (namesOf j) (has_range h).1 (has_range h).2 Nd.gone
 simpa [cnt, kill, namesOf, Nd.gone] using this
theorem links_kill {d : Nds} {i : Int} (h : has d i) (j : Int) : links (kill d i) j + namesOf j (nd d i) = links d j := by
 have := cnt_kill h j
 unfold links
 omega
theorem count_kill {d : Nds} {i : Int} (h : has d i) : count (kill d i) + 1 = count d := by
 have := sumBy_upd here1 (has_range h).1 (has_range h).2 Nd.gone
 have h1 : here1 (nd d i) = 1 := by unfold here1; rw [if_neg h]
 rw [h1] at this
 simpa [count, kill, here1, Nd.gone] using this
theorem used_kill {d : Nds} {i : Int} (h : has d i) : used (kill d i) + room1 (nd d i) = used d := by
 have := sumBy_upd room1 (has_range h).1 (has_range h).2 Nd.gone
 have h1 : room1 Nd.gone = 0 := rfl
 rw [h1] at this
 simpa [used, kill] using this
theorem mass_kill {d : Nds} {i : Int} (h : has d i) : mass (kill d i) <= mass d := by
 have := sumBy_upd mass1 (has_range h).1 (has_range h).2 Nd.gone
 have h1 : mass1 Nd.gone = 1 := rfl
 have h2 : 1 <= mass1 (nd d i) := by unfold mass1; omega
 unfold mass kill at *
 omega
theorem Garb.other {d : Nds} {i j : Int} (hi : Garb d i) (hj : has d j) (hne : i ≠ j) : Garb (kill d j) i := by
 obtain ⟨h1, h2, h3⟩ := hi
 refine ⟨(has_kill hj).2 ⟨hne, h1⟩, ?_, ?_⟩
 ·have := links_kill hj i; omega
 ·rw [nd_kill hj, if_neg hne]; exact h3
theorem kill_comm {d : Nds} {i j : Int} (hi : has d i) (hj : has d j) (hne : i ≠ j) : kill (kill d i) j = kill (kill d j) i := by
 have := has_range hi
 have := has_range hj
 unfold kill upd
 rw [if_pos (by omega), if_pos (by omega), if_pos (by omega), if_pos (by omega)]
 exact List.set_comm _ _ (by omega)
theorem Kills.normal (d : Nds) : ∃ d', Kills d d' ∧ NoGarb d' := by
 generalize hn : count d = n
 induction n generalizing d with
 | zero =>
   refine ⟨d, .refl d, fun i hi => ?_⟩
   have := count_kill hi.1
   omega
 | succ n ih =>
   by_cases h : NoGarb d
   ·exact ⟨d, .refl d, h⟩
   ·simp only [NoGarb, Classical.not_forall, Classical.not_not] at h
    obtain ⟨i, hi⟩ := h
    have := count_kill hi.1
    obtain ⟨d', h1, h2⟩ := ih (kill d i) (by omega)
    exact ⟨d', .step i hi h1, h2⟩
theorem Kills.unique {d a b : Nds} (ha : Kills d a) (hb : Kills d b) (na : NoGarb a) (nb : NoGarb b) : a = b := by
 generalize hn : count d = n
 induction n using Nat.strongRecOn generalizing d a b with
 | ind n ih =>
   cases ha with
   | refl =>
     cases hb with
     | refl => rfl
     | step j hj _ => exact absurd hj (na j)
   | step i hi ha' =>
     cases hb with
     | refl => exact absurd hi (nb i)
     | step j hj hb' =>
       have ci := count_kill hi.1
       have cj := count_kill hj.1
       by_cases e : i = j
       ·subst e; exact ih _ (by omega) ha' hb' na nb rfl
       ·obtain ⟨c, hc, nc⟩ := Kills.normal (kill (kill d i) j)
        have h1 := ih _ (by omega) ha' (.step j (hj.other hi.1 (fun h => e h.symm)) hc) na nc rfl
        rw [kill_comm hi.1 hj.1 e] at hc
        have h2 := ih _ (by omega) hb' (.step i (hi.other hj.1 e) hc) nb nc rfl
        exact h1.trans h2.symm
noncomputable def gc (d : Nds) : Nds := Classical.choose (Kills.normal d)
theorem gc_kills (d : Nds) : Kills d (gc d) := (Classical.choose_spec (Kills.normal d)).1
theorem gc_clean (d : Nds) : NoGarb (gc d) := (Classical.choose_spec (Kills.normal d)).2
theorem gc_eq {d d' : Nds} (h : Kills d d') (hn : NoGarb d') : gc d = d' := (gc_kills d).unique h (gc_clean d) hn
theorem gc_same {d : Nds} (h : NoGarb d) : gc d = d := gc_eq (.refl d) h
structure NdOk (n : Nd) : Prop where
 kind0 : 0 <= n.kind
 kind3 : n.kind <= 3
 gone : n.kind = 0 -> n = Nd.gone
 mode0 : 0 <= n.mode
 mode1 : n.mode <= 4095
 holds : 0 <= n.holds
 data : n.data.size <= 4194304
 dirs : n.kind = 2 -> n.data = ⟨#[]⟩
 flat : n.kind ≠ 2 -> n.ents = []
 rising : Rising n.ents
 names : ∀ e ∈ n.ents, okName e.1 = true
theorem NdOk.none : NdOk Nd.gone := ⟨by decide, by decide, fun _ => rfl, by decide, by decide, by decide, by decide, (fun h => by cases h), fun _ => rfl, List.Pairwise.nil, (fun _ h => by cases h)⟩
def Par (d : Nds) (j i : Int) : Prop := (nd d i).kind = 2 ∧ ∃ e ∈ (nd d j).ents, e.2 = i
structure DInv (d : Nds) : Prop where
 two : 2 <= d.length
 zero : nd d 0 = Nd.gone
 root : (nd d 1).kind = 2
 node : ∀ i, NdOk (nd d i)
 tgt : ∀ i e, e ∈ (nd d i).ents -> has d e.2 ∧ e.2 ≠ 1
 single : ∀ i, (nd d i).kind = 2 -> links d i <= 1
 acyc : ∀ i, Acc (Par d) i
theorem DInv.pos {d : Nds} (h : DInv d) {i : Int} (hi : has d i) : 1 <= i := by
 have := has_range hi
 by_cases e : i = 0
 ·subst e; rw [has, h.zero] at hi; exact absurd rfl hi
 ·omega
theorem DInv.not_garb_root {d : Nds} : ¬ Garb d 1 := fun h => by have := h.2.1; unfold links at this; simp at this
theorem DInv.kill {d : Nds} (h : DInv d) {i : Int} (hi : Garb d i) : DInv (kill d i) := by
 have hg := hi.1
 have hne : i ≠ 1 := fun e => by subst e; exact DInv.not_garb_root hi
 have hpos := h.pos hg
 refine ⟨by rw [kill_length]; exact h.two, ?_, ?_, fun j => ?_, fun j e he => ?_, fun j hj => ?_, fun j => ?_⟩
 ·rw [nd_kill hg, if_neg (by omega)]; exact h.zero
 ·rw [nd_kill hg, if_neg (fun e => hne e.symm)]; exact h.root
 ·rw [nd_kill hg]; split
  ·exact NdOk.none
  ·exact h.node j
 ·rw [nd_kill hg] at he
  split at he
  ·cases he
  ·obtain ⟨h1, h2⟩ := h.tgt j e he
   refine ⟨(has_kill hg).2 ⟨fun e1 => ?_, h1⟩, h2⟩
   have : 0 < cnt d i := cnt_pos.2 ⟨j, e, he, e1⟩
   have := hi.2.1
   unfold links at this
   omega
 ·rw [nd_kill hg] at hj
  split at hj
  ·cases hj
  ·have := h.single j hj
   have := links_kill hg j
   omega
 ·have := h.acyc j
  induction this with
  | intro j _ ih =>
    refine ⟨j, fun k hk => ih k ?_⟩
    obtain ⟨h1, e, he, h2⟩ := hk
    rw [nd_kill hg] at h1 he
    split at h1
    ·cases h1
    ·split at he
     ·cases he
     ·exact ⟨h1, e, he, h2⟩
theorem Kills.length {d d' : Nds} (k : Kills d d') : d'.length = d.length := by
 induction k with
 | refl => rfl
 | step i _ _ ih => rw [ih, kill_length]
theorem Kills.mass {d d' : Nds} (k : Kills d d') : mass d' <= mass d := by
 induction k with
 | refl => exact Nat.le_refl _
 | step i hi _ ih => exact Nat.le_trans ih (mass_kill hi.1)
theorem Kills.was {d d' : Nds} (k : Kills d d') {i : Int} (h : has d' i) : has d i ∧ nd d' i = nd d i := by
 induction k with
 | refl => exact ⟨h, rfl⟩
 | step j hj _ ih =>
   obtain ⟨h1, h2⟩ := ih h
   obtain ⟨h3, h4⟩ := (has_kill hj.1).1 h1
   exact ⟨h4, by rw [h2, nd_kill hj.1, if_neg h3]⟩
theorem mass_ge (d : Nds) : d.length <= mass d := by
 induction d with
 | nil => simp
 | cons a d ih =>
   simp [mass, sumBy] at ih ⊢
   have : 1 <= mass1 a := by unfold mass1; omega
   omega
theorem used_le {d : Nds} (h : DInv d) : used d <= 4194304 * mass d := by
 have hn : ∀ n ∈ d, NdOk n := fun n hn => by
  obtain ⟨j, hj⟩ := List.mem_iff_getElem?.1 hn
  have := h.node j
  rwa [nd_nat hj] at this
 clear h
 induction d with
 | nil => simp [used, sumBy]
 | cons a d ih =>
   have ih := ih (fun n h => hn n (List.mem_cons_of_mem _ h))
   have ha := hn a List.mem_cons_self
   have h2 : entSize a.ents <= 255 * a.ents.length := by
    have : ∀ l : List Ent, (∀ e ∈ l, okName e.1 = true) -> entSize l <= 255 * l.length := by
     intro l hl
     induction l with
     | nil => simp [entSize]
     | cons x l ih =>
       have h1 := ih (fun e h => hl e (List.mem_cons_of_mem _ h))
       have h2 := hl x List.mem_cons_self
       simp [okName] at h2
       simp [entSize] at h1 ⊢
       omega
    exact this _ ha.names
   have h3 := ha.data
   simp only [used, mass, sumBy, List.map_cons, List.sum_cons] at ih ⊢
   have h4 : room1 a <= 4194304 * mass1 a := by unfold room1 mass1; omega
   rw [Nat.mul_add]
   omega
end Go.Proofs.YtnaenhekjdmlaaaGreatDoor
namespace Go.Proofs.YtnaenhekjdmlaaaGreatDoor
open Go.RowKit
inductive Tag where
 | none | disk | map | node (i : Int) | data (i : Int) | dir (i : Int)
structure RD where
 b : Nat
 kv : Kv
 g : Int -> Nat
 dv : Int -> Value
 ev : Int -> Value
 tag : Nat -> Tag
def RD.F (R : RD) : Nat -> Prop := fun x => R.tag x ≠ .none
def RD.N (R : RD) (i : Int) : Nat -> Prop := fun x => R.tag x = .node i ∨ R.tag x = .data i ∨ R.tag x = .dir i
structure NodeAt (w : World) (g : Nat) (dv ev : Value) (n : Nd) (lk up : Int) : Prop where
 kind : w.cell? ⟨g, 0, none⟩ = some (.int .i64 n.kind)
 mode : w.cell? ⟨g, 1, none⟩ = some (.int .i64 n.mode)
 links : w.cell? ⟨g, 2, none⟩ = some (.int .i64 lk)
 holds : w.cell? ⟨g, 3, none⟩ = some (.int .i64 n.holds)
 data : w.cell? ⟨g, 4, none⟩ = some dv
 own : OwnB (fun _ => True) w dv n.data
 dir : IsD w ⟨g, 5, none⟩ ev n.ents
 up : w.cell? ⟨g, 6, none⟩ = some (.int .i64 up)
 fz : ∀ j, w.frozen? ⟨g, j, none⟩ = false
theorem NodeAt.lt {w : World} {g : Nat} {dv ev : Value} {n : Nd} {lk up : Int} (h : NodeAt w g dv ev n lk up) : g < w.heap.size := lt_of_cell h.kind
theorem NodeAt.keep {F : Nat -> Prop} {w w' : World} {g : Nat} {dv ev : Value} {n : Nd} {lk up : Int} (h : NodeAt w g dv ev n lk up) (k : Keeps F w w') (hg : ¬ F g) (hd : ∀ x, dv.ownBlock = some x -> ¬ F x) (he : ∀ x, ev.ownBlock = some x -> ¬ F x) :
 NodeAt w' g dv ev n lk up := by
 have hc : ∀ j, w'.cell? ⟨g, j, none⟩ = w.cell? ⟨g, j, none⟩ := fun j => k.cell (p := ⟨g, j, none⟩) h.lt hg
 have hf : ∀ j, w'.frozen? ⟨g, j, none⟩ = w.frozen? ⟨g, j, none⟩ := fun j => k.frozen (p := ⟨g, j, none⟩) h.lt hg
 exact ⟨(hc 0).trans h.kind, (hc 1).trans h.mode, (hc 2).trans h.links, (hc 3).trans h.holds, (hc 4).trans h.data, h.own.keep k hd, h.dir.keep k hg he, (hc 6).trans h.up, fun j => (hf j).trans (h.fz j)⟩
structure Rep (R : RD) (w : World) (a : Nat) (d : Nds) (room us : Int) (lk up : Int -> Int) : Prop where
 l : w.cell? ⟨a, 0, none⟩ = some (.map (some R.b))
 next : w.cell? ⟨a, 1, none⟩ = some (.int .i64 d.length)
 used : w.cell? ⟨a, 2, none⟩ = some (.int .i64 us)
 room : w.cell? ⟨a, 3, none⟩ = some (.int .i64 room)
 fz : ∀ j, w.frozen? ⟨a, j, none⟩ = false
 tagA : R.tag a = .disk
 tagB : R.tag R.b = .map
 map : IMap w R.b R.kv
 get : ∀ i, kvGet R.kv i = if has d i then some (.pointer (some ⟨R.g i, 0, none⟩)) else none
 len : R.kv.length = count d
 tagN : ∀ i, has d i -> R.tag (R.g i) = .node i
 tagD : ∀ i, has d i -> ∀ x, (R.dv i).ownBlock = some x -> R.tag x = .data i
 tagE : ∀ i, has d i -> ∀ x, (R.ev i).ownBlock = some x -> R.tag x = .dir i
 node : ∀ i, has d i -> NodeAt w (R.g i) (R.dv i) (R.ev i) (nd d i) (lk i) (up i)
 top : ∀ x, w.heap.size <= x -> R.tag x = .none
section
variable {R : RD} {w w' : World} {a : Nat} {d : Nds} {room us : Int} {lk up : Int -> Int}
theorem Rep.alt (h : Rep R w a d room us lk up) : a < w.heap.size := lt_of_cell h.l
theorem Rep.keep {F : Nat -> Prop} (h : Rep R w a d room us lk up) (k : Keeps F w w') (hF : ∀ x, x < w.heap.size -> F x -> R.tag x = .none) : Rep R w' a d room us lk up := by
 have hA : ¬ F a := fun hf => by have := hF a h.alt hf; rw [h.tagA] at this; cases this
 have hB : ¬ F R.b := fun hf => by have := hF R.b h.map.lt hf; rw [h.tagB] at this; cases this
 have hc : ∀ j, w'.cell? ⟨a, j, none⟩ = w.cell? ⟨a, j, none⟩ := fun j => k.cell (p := ⟨a, j, none⟩) h.alt hA
 have hf : ∀ j, w'.frozen? ⟨a, j, none⟩ = w.frozen? ⟨a, j, none⟩ := fun j => k.frozen (p := ⟨a, j, none⟩) h.alt hA
 refine ⟨(hc 0).trans h.l, (hc 1).trans h.next, (hc 2).trans h.used, (hc 3).trans h.room, fun j => (hf j).trans (h.fz j), h.tagA, h.tagB, h.map.keep k hB, h.get, h.len, h.tagN, h.tagD, h.tagE, fun i hi => ?_, fun x hx => h.top x (Nat.le_trans k.size hx)⟩
 have hn := h.node i hi
 refine hn.keep k (fun hf => ?_) (fun x hx hf => ?_) (fun x hx hf => ?_)
 ·have := hF _ hn.lt hf; rw [h.tagN i hi] at this; cases this
 ·have := hF _ (hn.own.lt x hx) hf; rw [h.tagD i hi x hx] at this; cases this
 ·have := hF _ (hn.dir.ownlt x hx) hf; rw [h.tagE i hi x hx] at this; cases this
theorem Rep.keepN (h : Rep R w a d room us lk up) (k : Keeps NoB w w') : Rep R w' a d room us lk up := h.keep k (fun _ _ h => h.elim)
structure Turn (R : RD) (w : World) (R' : RD) (w' : World) : Prop where
 keeps : Keeps R.F w w'
 same : ∀ x, x < w.heap.size -> R'.tag x = R.tag x
theorem Turn.refl (R : RD) (w : World) : Turn R w R w := ⟨Keeps.refl _ _, fun _ _ => rfl⟩
theorem Turn.of (k : Keeps R.F w w') : Turn R w R w' := ⟨k, fun _ _ => rfl⟩
theorem Turn.ofN (k : Keeps NoB w w') : Turn R w R w' := ⟨k.of_none, fun _ _ => rfl⟩
theorem Turn.trans {R' R'' : RD} {w'' : World} (h : Turn R w R' w') (k : Turn R' w' R'' w'') : Turn R w R'' w'' :=
 ⟨h.keeps.trans' k.keeps (fun _ _ h => h) (fun x hx hf => by unfold RD.F at *; rwa [<- h.same x hx]), fun x hx => (k.same x (Nat.lt_of_lt_of_le hx h.keeps.size)).trans (h.same x hx)⟩
theorem cell_set {w : World} {g j k : Nat} {v u : Value} (h : w.cell? ⟨g, j, none⟩ = some v) : (w.setCell ⟨g, k, none⟩ u).cell? ⟨g, j, none⟩ = some (if j = k then u else v) := by
 by_cases e : j = k
 ·subst e; rw [if_pos rfl]; exact World.cell?_setCell_same _ _ _ h
 ·rw [if_neg e, World.cell?_setCell_other _ _ _ _ (by simp [e])]; exact h
theorem keeps_set (w : World) (p : Addr) (u : Value) : Keeps (fun x => x = p.block) w (w.setCell p u) := Keeps.setCell (p := p) (Keeps.refl (fun x => x = p.block) w) (Or.inl rfl) u
theorem frozen_set (w : World) (p q : Addr) (u : Value) : (w.setCell p u).frozen? q = w.frozen? q := by simp
theorem Rep.setUsed (h : Rep R w a d room us lk up) (us' : Int) : Rep R (w.setCell ⟨a, 2, none⟩ (.int .i64 us')) a d room us' lk up := by
 have k := keeps_set w ⟨a, 2, none⟩ (.int .i64 us')
 have hB : ¬ R.b = a := fun e => by have := h.tagB; rw [e, h.tagA] at this; cases this
 refine ⟨cell_set h.l, cell_set h.next, cell_set h.used, cell_set h.room, fun j => (frozen_set _ _ _ _).trans (h.fz j), h.tagA, h.tagB, h.map.keep k hB, h.get, h.len, h.tagN, h.tagD, h.tagE, fun i hi => ?_, fun x hx => h.top x (Nat.le_trans k.size hx)⟩
 have hn := h.node i hi
 refine hn.keep k (fun hf => ?_) (fun x hx hf => ?_) (fun x hx hf => ?_)
 ·have := h.tagN i hi; simp only at hf; rw [hf, h.tagA] at this; cases this
 ·have := h.tagD i hi x hx; simp only at hf; rw [hf, h.tagA] at this; cases this
 ·have := h.tagE i hi x hx; simp only at hf; rw [hf, h.tagA] at this; cases this
theorem Rep.fA (h : Rep R w a d room us lk up) : R.F a := by unfold RD.F; rw [h.tagA]; exact fun h => by cases h
theorem Rep.fB (h : Rep R w a d room us lk up) : R.F R.b := by unfold RD.F; rw [h.tagB]; exact fun h => by cases h
theorem Rep.fN (h : Rep R w a d room us lk up) {i : Int} (hi : has d i) : R.F (R.g i) := by unfold RD.F; rw [h.tagN i hi]; exact fun h => by cases h
theorem RD.N.F {i : Int} {x : Nat} (h : R.N i x) : R.F x := by
 unfold RD.F
 rcases h with h | h | h <;> rw [h] <;> exact fun h => by cases h
theorem Rep.nN (h : Rep R w a d room us lk up) {i : Int} (hi : has d i) : R.N i (R.g i) := .inl (h.tagN i hi)
def setAt {α : Type} (f : Int -> α) (i : Int) (v : α) : Int -> α := fun j => if j = i then v else f j
theorem setAt_same {α : Type} (f : Int -> α) (i : Int) (v : α) : setAt f i v i = v := if_pos rfl
theorem setAt_other {α : Type} {f : Int -> α} {i j : Int} {v : α} (h : j ≠ i) : setAt f i v j = f j := if_neg h
theorem Rep.turn (h : Rep R w a d room us lk up) {i : Int} (hi : has d i) (k : Keeps (R.N i) w w') (dv ev : Value) (T : Nat -> Tag) (hT : ∀ x, x < w.heap.size -> T x = R.tag x) (hT' : ∀ x, w'.heap.size <= x -> T x = .none)
 (hD : ∀ x, dv.ownBlock = some x -> T x = .data i) (hE : ∀ x, ev.ownBlock = some x -> T x = .dir i) {n : Nd} (hn : n.kind ≠ 0) {lk' up' : Int} (hN : NodeAt w' (R.g i) dv ev n lk' up') :
 Rep { R with dv := setAt R.dv i dv, ev := setAt R.ev i ev, tag := T } w' a (upd d i n) room us (setAt lk i lk') (setAt up i up') := by
 have hr := has_range hi
 have notN : ∀ {x t}, R.tag x = t -> (t ≠ .node i ∧ t ≠ .data i ∧ t ≠ .dir i) -> ¬ R.N i x := by
  rintro x t rfl ⟨h1, h2, h3⟩ (h | h | h)
  ·exact h1 h
  ·exact h2 h
  ·exact h3 h
 have hA : ¬ R.N i a := notN h.tagA ⟨by simp, by simp, by simp⟩
 have hB : ¬ R.N i R.b := notN h.tagB ⟨by simp, by simp, by simp⟩
 have hc : ∀ j, w'.cell? ⟨a, j, none⟩ = w.cell? ⟨a, j, none⟩ := fun j => k.cell (p := ⟨a, j, none⟩) h.alt hA
 have hf : ∀ j, w'.frozen? ⟨a, j, none⟩ = w.frozen? ⟨a, j, none⟩ := fun j => k.frozen (p := ⟨a, j, none⟩) h.alt hA
 have hh : ∀ j, has (upd d i n) j ↔ has d j := fun j => by
  unfold has
  rw [nd_upd hr.1 hr.2]
  split
  ·next e => subst e; exact ⟨fun _ => hi, fun _ => hn⟩
  ·rfl
 have hcount : count (upd d i n) = count d := by
  have := sumBy_upd here1 hr.1 hr.2 n
  have h1 : here1 n = 1 := by unfold here1; rw [if_neg hn]
  have h2 : here1 (nd d i) = 1 := by unfold here1; rw [if_neg hi]
  unfold count
  omega
 refine ⟨(hc 0).trans h.l, ?_, (hc 2).trans h.used, (hc 3).trans h.room, fun j => (hf j).trans (h.fz j), ?_, ?_, h.map.keep k hB, fun j => ?_, h.len.trans hcount.symm, fun j hj => ?_, fun j hj x hx => ?_, fun j hj x hx => ?_, fun j hj => ?_, hT'⟩
 ·rw [upd_length]; exact (hc 1).trans h.next
 ·exact (hT a h.alt).trans h.tagA
 ·exact (hT R.b h.map.lt).trans h.tagB
 ·rw [h.get j]; simp only [hh]
 ·have hj := (hh j).1 hj
  exact (hT _ (h.node j hj).lt).trans (h.tagN j hj)
 ·have hj' := (hh j).1 hj
  simp only [setAt] at hx
  split at hx
  ·next e => subst e; exact hD x hx
  ·exact (hT _ ((h.node j hj').own.lt x hx)).trans (h.tagD j hj' x hx)
 ·have hj' := (hh j).1 hj
  simp only [setAt] at hx
  split at hx
  ·next e => subst e; exact hE x hx
  ·exact (hT _ ((h.node j hj').dir.ownlt x hx)).trans (h.tagE j hj' x hx)
 ·have hj' := (hh j).1 hj
  rw [nd_upd hr.1 hr.2]
  simp only [setAt]
  by_cases e : j = i
  ·subst e; simp only [if_true]; exact hN
  ·simp only [e, if_false]
   refine (h.node j hj').keep k ?_ (fun x hx => ?_) (fun x hx => ?_)
   ·exact notN (h.tagN j hj') ⟨by simp [e], by simp, by simp⟩
   ·exact notN (h.tagD j hj' x hx) ⟨by simp, by simp [e], by simp⟩
   ·exact notN (h.tagE j hj' x hx) ⟨by simp, by simp, by simp [e]⟩
theorem setAt_self {α : Type} {f : Int -> α} {i : Int} : setAt f i (f i) = f := by
 funext j
 unfold setAt
 split
 ·next e => rw [e]
 ·rfl
theorem upd_self {d : Nds} {i : Int} (h : has d i) : upd d i (nd d i) = d := by
 have hr := has_range h
 unfold upd
 rw [if_pos hr.1]
 have := nd_get hr.1 hr.2
 apply List.ext_getElem?
 intro j
 rw [List.getElem?_set]
 split
 ·next e => subst e; rw [if_pos hr.2, this]
 ·rfl
theorem NodeAt.set {g : Nat} {dv ev : Value} {n : Nd} {lk up : Int} (h : NodeAt w g dv ev n lk up) (hd : ¬ dv.ownBlock = some g) (j : Nat) (v : Int) (hj : j < 4 ∨ j = 6) (n' : Nd) (lk' up' : Int)
 (h0 : n'.kind = if 0 = j then v else n.kind) (h1 : n'.mode = if 1 = j then v else n.mode) (h2 : lk' = if 2 = j then v else lk) (h3 : n'.holds = if 3 = j then v else n.holds) (h4 : n'.data = n.data) (h5 : n'.ents = n.ents) (h6 : up' = if 6 = j then v else up) :
 NodeAt (w.setCell ⟨g, j, none⟩ (.int .i64 v)) g dv ev n' lk' up' := by
 have k := keeps_set w ⟨g, j, none⟩ (.int .i64 v)
 have hap := h.dir.apart
 have wrap : ∀ (c : Nat) (x : Int), (if c = j then Value.int .i64 v else .int .i64 x) = .int .i64 (if c = j then v else x) := fun c x => by split <;> rfl
 refine ⟨?_, ?_, ?_, ?_, ?_, ?_, ?_, ?_, fun i => (frozen_set _ _ _ _).trans (h.fz i)⟩
 ·rw [cell_set h.kind, h0, wrap]
 ·rw [cell_set h.mode, h1, wrap]
 ·rw [cell_set h.links, h2, wrap]
 ·rw [cell_set h.holds, h3, wrap]
 ·rw [cell_set h.data, if_neg (by omega)]
 ·rw [h4]; exact h.own.keep k (fun x hx e => by simp only at e; subst e; exact hd hx)
 ·rw [h5]
  refine ⟨?_, (frozen_set _ _ _ _).trans h.dir.free, h.dir.spot, h.dir.own.keep k (fun x hx e => by simp only at e; subst e; exact hap hx), h.dir.rising, h.dir.names, hap⟩
  have := h.dir.cell
  rw [cell_set this, if_neg (by omega)]
 ·rw [cell_set h.up, h6, wrap]
theorem Rep.dvne (h : Rep R w a d room us lk up) {i : Int} (hi : has d i) : ¬ (R.dv i).ownBlock = some (R.g i) := fun e => by
 have := h.tagD i hi _ e
 rw [h.tagN i hi] at this
 cases this
theorem Rep.setNode (h : Rep R w a d room us lk up) {i : Int} (hi : has d i) (j : Nat) (v : Int) (hj : j < 4 ∨ j = 6) (n' : Nd) (lk' up' : Int) (hk : n'.kind ≠ 0)
 (h0 : n'.kind = if 0 = j then v else (nd d i).kind) (h1 : n'.mode = if 1 = j then v else (nd d i).mode) (h2 : lk' = if 2 = j then v else lk i) (h3 : n'.holds = if 3 = j then v else (nd d i).holds) (h4 : n'.data = (nd d i).data) (h5 : n'.ents = (nd d i).ents) (h6 : up' = if 6 = j then v else up i) :
 Rep R (w.setCell ⟨R.g i, j, none⟩ (.int .i64 v)) a (upd d i n') room us (setAt lk i lk') (setAt up i up') := by
 have hn := (h.node i hi).set (h.dvne hi) j v hj n' lk' up' h0 h1 h2 h3 h4 h5 h6
 have k := keeps_set w ⟨R.g i, j, none⟩ (.int .i64 v)
 have := h.turn hi (k.mono (fun x _ hx => by simp only at hx; subst hx; exact h.nN hi)) (R.dv i) (R.ev i) R.tag (fun _ _ => rfl) (fun x hx => h.top x (Nat.le_trans k.size hx)) (h.tagD i hi) (h.tagE i hi) hk hn
 rwa [setAt_self, setAt_self] at this
theorem Rep.setLinks (h : Rep R w a d room us lk up) {i : Int} (hi : has d i) (v : Int) : Rep R (w.setCell ⟨R.g i, 2, none⟩ (.int .i64 v)) a d room us (setAt lk i v) up := by
 have := h.setNode hi 2 v (by omega) (nd d i) v (up i) hi rfl rfl rfl rfl rfl rfl rfl
 rwa [upd_self hi, setAt_self] at this
theorem Rep.setUp (h : Rep R w a d room us lk up) {i : Int} (hi : has d i) (v : Int) : Rep R (w.setCell ⟨R.g i, 6, none⟩ (.int .i64 v)) a d room us lk (setAt up i v) := by
 have := h.setNode hi 6 v (by omega) (nd d i) (lk i) v hi rfl rfl rfl rfl rfl rfl rfl
 rwa [upd_self hi, setAt_self] at this
theorem Rep.setHolds (h : Rep R w a d room us lk up) {i : Int} (hi : has d i) (v : Int) : Rep R (w.setCell ⟨R.g i, 3, none⟩ (.int .i64 v)) a (upd d i ((nd d i).setHolds v)) room us lk up := by
 have := h.setNode hi 3 v (by omega) ((nd d i).setHolds v) (lk i) (up i) hi rfl rfl rfl rfl rfl rfl rfl
 rwa [setAt_self, setAt_self] at this
end
section
variable {R : RD} {w w' : World} {a : Nat} {d : Nds} {room us : Int} {lk up : Int -> Int}
theorem kvGet_del (l : Kv) (k j : Int) : kvGet (kvDel l k) j = if j = k then none else kvGet l j := by
 unfold kvGet kvDel
 induction l with
 | nil => simp
 | cons x l ih =>
   rw [List.filter_cons, List.find?_cons]
   by_cases e : x.1 = k
   ·simp only [e, decide_true, Bool.not_true, Bool.false_eq_true, if_false]
    rw [ih]
    by_cases e2 : j = k
    ·simp [e2]
    ·simp [e2, Ne.symm e2]
   ·simp only [e, decide_false, Bool.not_false, if_true, List.find?_cons]
    by_cases e3 : x.1 = j
    ·subst e3; simp [e]
    ·simp only [e3, decide_false]; exact ih
theorem kvDel_len {l : Kv} (hn : (l.map (·.1)).Nodup) {k : Int} {v : Value} (h : kvGet l k = some v) : (kvDel l k).length + 1 = l.length := by
 induction l with
 | nil => simp [kvGet] at h
 | cons x l ih =>
   rw [List.map_cons, List.nodup_cons] at hn
   by_cases e : x.1 = k
   ·have : kvDel (x :: l) k = l := by
     unfold kvDel
     rw [List.filter_cons]
     simp only [e, decide_true, Bool.not_true, Bool.false_eq_true, if_false]
     exact kvDel_none fun y hy e2 => hn.1 (List.mem_map.2 ⟨y, hy, e2.trans e.symm⟩)
    rw [this]; rfl
   ·have h1 : kvDel (x :: l) k = x :: kvDel l k := by simp [kvDel, List.filter_cons, e]
    have h2 : kvGet l k = some v := by simpa [kvGet, List.find?_cons, e] using h
    rw [h1, List.length_cons, List.length_cons, ih hn.2 h2]
theorem Rep.kill (h : Rep R w a d room us lk up) {i : Int} (hi : has d i) (k : Keeps (fun x => x = R.b) w w') (hm : IMap w' R.b (kvDel R.kv i)) :
 Rep { R with kv := kvDel R.kv i } w' a (kill d i) room us lk up := by
 have hA : ¬ a = R.b := fun e => by have := h.tagB; rw [<- e, h.tagA] at this; cases this
 have hc : ∀ j, w'.cell? ⟨a, j, none⟩ = w.cell? ⟨a, j, none⟩ := fun j => k.cell (p := ⟨a, j, none⟩) h.alt hA
 have hf : ∀ j, w'.frozen? ⟨a, j, none⟩ = w.frozen? ⟨a, j, none⟩ := fun j => k.frozen (p := ⟨a, j, none⟩) h.alt hA
 have hg : kvGet R.kv i = some (.pointer (some ⟨R.g i, 0, none⟩)) := by rw [h.get i, if_pos hi]
 have hl := kvDel_len h.map.nodup hg
 have hcnt := count_kill hi
 refine ⟨(hc 0).trans h.l, ?_, (hc 2).trans h.used, (hc 3).trans h.room, fun j => (hf j).trans (h.fz j), h.tagA, h.tagB, hm, fun j => ?_, ?_, fun j hj => h.tagN j ((has_kill hi).1 hj).2, fun j hj => h.tagD j ((has_kill hi).1 hj).2,
  fun j hj => h.tagE j ((has_kill hi).1 hj).2, fun j hj => ?_, fun x hx => h.top x (Nat.le_trans k.size hx)⟩
 ·rw [kill_length]; exact (hc 1).trans h.next
 ·show kvGet (kvDel R.kv i) j = _
  rw [kvGet_del]
  by_cases e : j = i
  ·subst e
   rw [if_pos rfl, if_neg (fun hh => ((has_kill hi).1 hh).1 rfl)]
  ·rw [if_neg e, h.get j]
   simp only [has_kill hi, e, ne_eq, not_false_eq_true, true_and]
 ·show (kvDel R.kv i).length = _
  have := h.len
  omega
 ·obtain ⟨h1, h2⟩ := (has_kill hi).1 hj
  rw [nd_kill hi, if_neg h1]
  refine (h.node j h2).keep k (fun e => ?_) (fun x hx e => ?_) (fun x hx e => ?_)
  ·have := h.tagN j h2; rw [e, h.tagB] at this; cases this
  ·have := h.tagD j h2 x hx; rw [e, h.tagB] at this; cases this
  ·have := h.tagE j h2 x hx; rw [e, h.tagB] at this; cases this
theorem nd_append (d : Nds) (n : Nd) (j : Int) : nd (d ++ [n]) j = if j = d.length then n else nd d j := by
 unfold nd
 by_cases h0 : 0 <= j
 ·rw [if_pos h0, if_pos h0]
  by_cases e : j = d.length
  ·subst e; simp
  ·rw [if_neg e]
   by_cases hl : j.toNat < d.length
   ·rw [List.getElem?_append_left hl]
   ·rw [List.getElem?_append_right (by omega), List.getElem?_eq_none (l := d) (by omega), List.getElem?_eq_none (by simp; omega)]
 ·rw [if_neg h0, if_neg h0, if_neg (by omega)]
theorem Rep.add (h : Rep R w a d room us lk up) (k : Keeps (fun x => x = a ∨ x = R.b) w w') {n : Nd} (hn : n.kind ≠ 0) {us' : Int} (g : Nat) (dv : Value) {lk' up' : Int}
 (h0 : w'.cell? ⟨a, 0, none⟩ = some (.map (some R.b))) (h1 : w'.cell? ⟨a, 1, none⟩ = some (.int .i64 ((d.length : Int) + 1))) (h2 : w'.cell? ⟨a, 2, none⟩ = some (.int .i64 us')) (h3 : w'.cell? ⟨a, 3, none⟩ = some (.int .i64 room))
 (hfz : ∀ j, w'.frozen? ⟨a, j, none⟩ = false) (hm : IMap w' R.b (R.kv ++ [((d.length : Int), .pointer (some ⟨g, 0, none⟩))])) (hg : w.heap.size <= g) (hd : ∀ x, dv.ownBlock = some x -> w.heap.size <= x ∧ x ≠ g)
 (hN : NodeAt w' g dv (.slice none 0 0) n lk' up') :
 ∃ R', Rep R' w' a (d ++ [n]) room us' (setAt lk d.length lk') (setAt up d.length up') ∧ Turn R w R' w' := by
 have hab : ¬ a = R.b := fun e => by have := h.tagB; rw [<- e, h.tagA] at this; cases this
 have hno : ¬ has d d.length := fun hh => by have := has_range hh; omega
 have hh : ∀ j, has (d ++ [n]) j ↔ j = d.length ∨ has d j := fun j => by
  unfold has
  rw [nd_append]
  split
  ·next e => subst e; exact ⟨fun _ => .inl rfl, fun _ => hn⟩
  ·next e => exact ⟨.inr, fun h => h.resolve_left e⟩
 have hcount : count (d ++ [n]) = count d + 1 := by
  unfold count
  rw [sumBy_append]
  have : here1 n = 1 := by unfold here1; rw [if_neg hn]
  rw [this]
 have hgl := hN.lt
 let T : Nat -> Tag := fun x => if x = g then .node d.length else if dv.ownBlock = some x then .data d.length else R.tag x
 have hT : ∀ x, x < w.heap.size -> T x = R.tag x := fun x hx => by
  show (if x = g then _ else _) = _
  rw [if_neg (by omega), if_neg (fun e => by have := (hd x e).1; omega)]
 have hdl : ∀ x, dv.ownBlock = some x -> x < w'.heap.size := hN.own.lt
 refine ⟨⟨R.b, R.kv ++ [((d.length : Int), .pointer (some ⟨g, 0, none⟩))], setAt R.g d.length g, setAt R.dv d.length dv, setAt R.ev d.length (.slice none 0 0), T⟩,
  ⟨h0, ?_, h2, h3, hfz, (hT a h.alt).trans h.tagA, (hT _ h.map.lt).trans h.tagB, hm, fun j => ?_, ?_, fun j hj => ?_, fun j hj x hx => ?_, fun j hj x hx => ?_, fun j hj => ?_, fun x hx => ?_⟩, ⟨k.mono (fun x _ hx => ?_), hT⟩⟩
 ·rw [List.length_append]; exact h1
 ·show kvGet (R.kv ++ _) j = _
  simp only [hh, kvGet, List.find?_append]
  have hgj := h.get j
  unfold kvGet at hgj
  by_cases e : j = d.length
  ·subst e
   rw [if_neg hno] at hgj
   rw [if_pos (.inl rfl), Option.map_eq_none_iff] at *
   rw [hgj]
   simp [setAt]
  ·have e' : ¬ (d.length : Int) = j := fun h => e h.symm
   simp only [e, false_or, List.find?_cons, e', decide_false, List.find?_nil, Option.or_none, hgj, setAt, if_false]
 ·show (R.kv ++ _).length = _
  rw [hcount, List.length_append, h.len]; rfl
 ·show T (setAt R.g d.length g j) = _
  by_cases e : j = d.length
  ·subst e; rw [setAt_same]; exact if_pos rfl
  ·rw [setAt_other e]
   have hj := ((hh j).1 hj).resolve_left e
   exact (hT _ (h.node j hj).lt).trans (h.tagN j hj)
 ·show T x = _
  by_cases e : j = d.length
  ·subst e
   have hx : dv.ownBlock = some x := by simpa only [setAt_same] using hx
   show (if x = g then _ else if dv.ownBlock = some x then _ else _) = _
   rw [if_neg (hd x hx).2, if_pos hx]
  ·have hx : (R.dv j).ownBlock = some x := by simpa only [setAt_other e] using hx
   have hj := ((hh j).1 hj).resolve_left e
   exact (hT _ ((h.node j hj).own.lt x hx)).trans (h.tagD j hj x hx)
 ·show T x = _
  by_cases e : j = d.length
  ·subst e
   have hx : (Value.slice none 0 0).ownBlock = some x := by simpa only [setAt_same] using hx
   simp [Value.ownBlock] at hx
  ·have hx : (R.ev j).ownBlock = some x := by simpa only [setAt_other e] using hx
   have hj := ((hh j).1 hj).resolve_left e
   exact (hT _ ((h.node j hj).dir.ownlt x hx)).trans (h.tagE j hj x hx)
 ·rw [nd_append]
  by_cases e : j = d.length
  ·subst e; simp only [setAt_same, if_true]; exact hN
  ·simp only [setAt_other e, e, if_false]
   have hj := ((hh j).1 hj).resolve_left e
   refine (h.node j hj).keep k (fun hx => ?_) (fun x hx hx' => ?_) (fun x hx hx' => ?_)
   ·have := h.tagN j hj; rcases hx with e | e <;> rw [e] at this
    ·rw [h.tagA] at this; cases this
    ·rw [h.tagB] at this; cases this
   ·have := h.tagD j hj x hx; rcases hx' with e | e <;> rw [e] at this
    ·rw [h.tagA] at this; cases this
    ·rw [h.tagB] at this; cases this
   ·have := h.tagE j hj x hx; rcases hx' with e | e <;> rw [e] at this
    ·rw [h.tagA] at this; cases this
    ·rw [h.tagB] at this; cases this
 ·show (if x = g then _ else if dv.ownBlock = some x then _ else _) = _
  have hx : w'.heap.size <= x := hx
  have := k.size
  rw [if_neg (by omega), if_neg (fun e => by have := hdl x e; omega)]
  exact h.top x (by omega)
 ·rcases hx with rfl | rfl
  ·exact h.fA
  ·exact h.fB
theorem Rep.tags (h : Rep R w a d room us lk up) (k : w.heap.size <= w'.heap.size) (t : Tag) : ∃ T : Nat -> Tag, (∀ x, x < w.heap.size -> T x = R.tag x) ∧ (∀ x, w'.heap.size <= x -> T x = .none) ∧ ∀ x, w.heap.size <= x -> x < w'.heap.size -> T x = t := by
 refine ⟨fun x => if w.heap.size <= x ∧ x < w'.heap.size then t else R.tag x, fun x hx => if_neg (by omega), fun x hx => ?_, fun x h1 h2 => if_pos ⟨h1, h2⟩⟩
 show (if _ then _ else _) = _
 rw [if_neg (by omega)]
 exact h.top x (by omega)
theorem Rep.setDir (h : Rep R w a d room us lk up) {i : Int} (hi : has d i) {es : List Ent} (hd : DTo w w' ⟨R.g i, 5, none⟩ (R.ev i) es) :
 ∃ R', Rep R' w' a (upd d i ((nd d i).setEnts es)) room us lk up ∧ Turn R w R' w' ∧ R'.g = R.g ∧ R'.b = R.b := by
 obtain ⟨v, hI, k, hv⟩ := hd
 have hn := h.node i hi
 have hgd := h.dvne hi
 have hap := hn.dir.apart
 have hsz : (w.setCell ⟨R.g i, 5, none⟩ v).heap.size = w.heap.size := by simp [World.setCell]
 have hde : ∀ x, (R.dv i).ownBlock = some x -> ¬ (R.ev i).ownBlock = some x := fun x h1 h2 => by
  have := h.tagE i hi x h2; rw [h.tagD i hi x h1] at this; cases this
 have hap' : ¬ (R.ev i).ownBlock = some (R.g i) := hap
 have k0 := keeps_set w ⟨R.g i, 5, none⟩ v
 have hlt := hn.lt
 have hc : ∀ (j : Nat) (u : Value), j ≠ 5 -> w.cell? ⟨R.g i, j, none⟩ = some u -> w'.cell? ⟨R.g i, j, none⟩ = some u := fun j u hj hu => by
  rw [k.cell (p := ⟨R.g i, j, none⟩) (by rw [hsz]; exact hlt) hap', cell_set hu, if_neg hj]
 have hf : ∀ j, w'.frozen? ⟨R.g i, j, none⟩ = w.frozen? ⟨R.g i, j, none⟩ := fun j => (k.frozen (p := ⟨R.g i, j, none⟩) (by rw [hsz]; exact hlt) hap').trans (frozen_set _ _ _ _)
 have kk : Keeps (R.N i) w w' := (Keeps.setCell (p := ⟨R.g i, 5, none⟩) (Keeps.refl (R.N i) w) (.inl (h.nN hi)) v).step k (fun x hx => .inl (.inr (.inr (h.tagE i hi x hx))))
 have hN : NodeAt w' (R.g i) (R.dv i) v ((nd d i).setEnts es) (lk i) (up i) :=
  ⟨hc 0 _ (by decide) hn.kind, hc 1 _ (by decide) hn.mode, hc 2 _ (by decide) hn.links, hc 3 _ (by decide) hn.holds, hc 4 _ (by decide) hn.data,
    (hn.own.keep k0 (fun x hx e => by simp only at e; subst e; exact hgd hx)).keep k hde, hI, hc 6 _ (by decide) hn.up, fun j => (hf j).trans (hn.fz j)⟩
 obtain ⟨T, hT, hT', hTn⟩ := h.tags kk.size (.dir i)
 have hR := h.turn hi kk (R.dv i) v T hT hT' (fun x hx => (hT x (hn.own.lt x hx)).trans (h.tagD i hi x hx)) (fun x hx => ?_) (n := (nd d i).setEnts es) hi hN
 ·simp only [setAt_self] at hR
  exact ⟨_, hR, ⟨kk.mono (fun x _ hx => hx.F), hT⟩, rfl, rfl⟩
 ·rcases hv x hx with h1 | h1
  ·exact (hT x (hn.dir.ownlt x h1)).trans (h.tagE i hi x h1)
  ·exact hTn x h1 (hI.ownlt x hx)
def nodeV (R : RD) (d : Nds) (i : Int) : Value := if has d i then .pointer (some ⟨R.g i, 0, none⟩) else .pointer none
theorem Rep.look (h : Rep R w a d room us lk up) (i : Int) : (Instr.lookup 106 (.map (some R.b)) (.int .i64 i) false).run Tryz.prog w = .ok (nodeV R d i) w := by
 have hz : (zeroValue 105).run Tryz.prog w = .ok (.pointer none) w := by kernel_rfl
 have := h.map.lookup (P := Tryz.prog) Tryz.underlying106 Tryz.underlying3 hz i
 rw [this, h.get i]
 unfold nodeV
 split <;> rfl
end
def UpOk (d : Nds) (lk up : Int -> Int) : Prop := ∀ i, has d i -> (∀ j, Par d j i -> up i = j) ∧ (i = 1 -> up i = 1) ∧ (lk i = 0 -> up i = 0)
def PG (d : Nds) (pend : Int -> Nat) (i : Int) : Prop := has d i ∧ links d i = 0 ∧ pend i = 0 ∧ (nd d i).holds = 0
def smallD (d : Nds) : Prop := mass d <= 2147483648
structure Casc (R : RD) (w : World) (a : Nat) (d : Nds) (room : Int) (lk up : Int -> Int) (pend : Int -> Nat) : Prop where
 rep : Rep R w a d room (used d) lk up
 inv : DInv d
 cnt : ∀ i, has d i -> lk i = ((links d i + pend i : Nat) : Int)
 pres : ∀ i, 0 < pend i -> has d i
 upok : UpOk d lk up
 small : smallD d
 lkb : ∀ i, has d i -> lk i <= 4611686018427387904
theorem nd_ents_len {d : Nds} (h : smallD d) (i : Int) : (nd d i).ents.length < 4294967295 := by
 by_cases hh : 0 <= i ∧ i.toNat < d.length
 ·have h1 := sumBy_ge mass1 hh.1 hh.2
  unfold smallD mass at h
  unfold mass1 at h h1
  omega
 ·rw [nd_gone hh]; decide
theorem Par.links {d : Nds} {j i : Int} (h : Par d j i) : 0 < links d i := by
 obtain ⟨_, e, he, h2⟩ := h
 have := cnt_pos.2 ⟨j, e, he, h2⟩
 unfold Go.Proofs.YtnaenhekjdmlaaaGreatDoor.links
 omega
section
variable {R R' : RD} {w w' : World} {a : Nat} {d : Nds} {room : Int} {lk up : Int -> Int} {pend : Int -> Nat} {i : Int}
theorem PG.garb (h : PG d pend i) : Garb d i := ⟨h.1, h.2.1, h.2.2.2⟩
theorem Casc.keep {F : Nat -> Prop} (h : Casc R w a d room lk up pend) (k : Keeps F w w') (hF : ∀ x, x < w.heap.size -> F x -> R.tag x = .none) : Casc R w' a d room lk up pend :=
 ⟨h.rep.keep k hF, h.inv, h.cnt, h.pres, h.upok, h.small, h.lkb⟩
theorem Casc.kill (h : Casc R w a d room lk up pend) (hp : PG d pend i) (rep : Rep R' w' a (kill d i) room (used (kill d i)) lk up) :
 Casc R' w' a (Go.Proofs.YtnaenhekjdmlaaaGreatDoor.kill d i) room lk up (fun j => pend j + namesOf j (nd d i)) := by
 have hi := hp.1
 refine ⟨rep, h.inv.kill hp.garb, fun j hj => ?_, fun j hj => ?_, fun j hj => ?_, ?_, fun j hj => h.lkb j ((has_kill hi).1 hj).2⟩
 ·have := h.cnt j ((has_kill hi).1 hj).2
  have := links_kill hi j
  omega
 ·refine (has_kill hi).2 ?_
  by_cases h1 : 0 < pend j
  ·exact ⟨fun e => by subst e; have := hp.2.2.1; omega, h.pres j h1⟩
  ·obtain ⟨e, he, h2⟩ := namesOf_pos.1 (by omega : 0 < namesOf j (nd d i))
   have := (h.inv.tgt i e he).1
   rw [h2] at this
   refine ⟨fun e1 => ?_, this⟩
   subst e1
   have := cnt_pos.2 ⟨j, e, he, h2⟩
   have := hp.2.1
   unfold links at this
   omega
 ·obtain ⟨h1, h2, h3⟩ := h.upok j ((has_kill hi).1 hj).2
  refine ⟨fun k hk => h1 k ?_, h2, h3⟩
  obtain ⟨hk1, e, he, hk2⟩ := hk
  rw [nd_kill hi, if_neg ((has_kill hi).1 hj).1] at hk1
  rw [nd_kill hi] at he
  split at he
  ·cases he
  ·exact ⟨hk1, e, he, hk2⟩
 ·have := mass_kill hi
  have := h.small
  unfold smallD at *
  omega
theorem PG.of_kill (hi : has d i) {j : Int} (h : PG (kill d i) (fun j => pend j + namesOf j (nd d i)) j) : PG d pend j ∧ j ≠ i := by
 obtain ⟨h1, h2, h3, h4⟩ := h
 obtain ⟨h5, h6⟩ := (has_kill hi).1 h1
 rw [nd_kill hi, if_neg h5] at h4
 have := links_kill hi j
 refine ⟨⟨h6, ?_, ?_, h4⟩, h5⟩ <;> simp only at h3 <;> omega
def decAt (p : Int -> Nat) (i : Int) : Int -> Nat := fun j => if j = i then p j - 1 else p j
theorem Casc.dec (h : Casc R w a d room lk up pend) (hp : 0 < pend i) {up' : Int -> Int} (rep : Rep R w' a d room (used d) (setAt lk i (lk i - 1)) up') (hup : up' = if lk i - 1 = 0 then setAt up i 0 else up) :
 Casc R w' a d room (setAt lk i (lk i - 1)) up' (decAt pend i) := by
 have hi := h.pres i hp
 have hc := h.cnt i hi
 refine ⟨rep, h.inv, fun j hj => ?_, fun j hj => ?_, fun j hj => ?_, h.small, fun j hj => ?_⟩
 ·have := h.cnt j hj
  unfold setAt decAt
  split
  ·next e => subst e; omega
  ·exact this
 ·unfold decAt at hj
  split at hj
  ·next e => subst e; exact hi
  ·exact h.pres j hj
 ·obtain ⟨h1, h2, h3⟩ := h.upok j hj
  subst hup
  by_cases e : j = i
  ·subst e
   rw [setAt_same]
   split
   ·next hz =>
    rw [setAt_same]
    refine ⟨fun k hk => ?_, fun e1 => ?_, fun _ => rfl⟩
    ·have := hk.links; omega
    ·subst e1; unfold links at hc; simp at hc; omega
   ·next hz => exact ⟨h1, h2, fun h => absurd h hz⟩
  ·rw [setAt_other e]
   have : (if lk i - 1 = 0 then setAt up i 0 else up) j = up j := by
    split
    ·exact setAt_other e
    ·rfl
   rw [this]
   exact ⟨h1, h2, h3⟩
 ·have := h.lkb j hj
  unfold setAt
  split
  ·next e => subst e; omega
  ·exact this
theorem PG.of_dec (hn : ∀ j, ¬ PG d pend j) {j : Int} (h : PG d (decAt pend i) j) : j = i := by
 by_cases e : j = i
 ·exact e
 ·obtain ⟨h1, h2, h3, h4⟩ := h
  unfold decAt at h3
  rw [if_neg e] at h3
  exact absurd ⟨h1, h2, h3, h4⟩ (hn j)
end
theorem Kills.count_le {d d' : Nds} (k : Kills d d') : count d' <= count d := by
 induction k with
 | refl => exact Nat.le_refl _
 | step i hi _ ih =>
   have := count_kill hi.1
   omega
def pendL (pend : Int -> Nat) (l : List Ent) : Int -> Nat := fun j => pend j + l.countP fun e => decide (e.2 = j)
theorem pendL_nil (pend : Int -> Nat) : pendL pend [] = pend := by funext j; simp [pendL]
theorem decAt_pendL (pend : Int -> Nat) (x : Ent) (l : List Ent) : decAt (pendL pend (x :: l)) x.2 = pendL pend l := by
 funext j
 unfold decAt pendL
 rw [List.countP_cons]
 by_cases e : j = x.2
 ·subst e; simp
 ·rw [if_neg e]
  have : ¬ x.2 = j := fun h => e h.symm
  simp [this]
def FreePost (R : RD) (w : World) (a : Nat) (d : Nds) (room : Int) (pend : Int -> Nat) : Ending -> World -> Prop := fun e w' =>
 e = .returned (.tuple #[]) ∧ ∃ R' d' lk' up', Casc R' w' a d' room lk' up' pend ∧ (∀ j, ¬ PG d' pend j) ∧ Kills d d' ∧ Turn R w R' w'
def FreeOk (n : Nat) : Prop := ∀ R w a d room lk up pend i, count d = n -> Casc R w a d room lk up pend -> has d i -> (∀ j, PG d pend j -> j = i) ->
 Calls Tryz.prog 106 #[.pointer (some ⟨a, 0, none⟩), .int .i64 i] w (FreePost R w a d room pend)
def LessOk (n : Nat) : Prop := ∀ R w a d room lk up pend i, count d = n -> Casc R w a d room lk up pend -> 0 < pend i -> (∀ j, ¬ PG d pend j) ->
 Calls Tryz.prog 166 #[.pointer (some ⟨a, 0, none⟩), .int .i64 i] w (FreePost R w a d room (decAt pend i))
section
variable {d : Nds} {i : Int} {n : Nd}
theorem has_upd (hi : has d i) (hn : n.kind ≠ 0) (j : Int) : has (upd d i n) j ↔ has d j := by
 have hr := has_range hi
 unfold has
 rw [nd_upd hr.1 hr.2]
 split
 ·next e => subst e; exact ⟨fun _ => hi, fun _ => hn⟩
 ·rfl
theorem links_upd (hi : has d i) (j : Int) : links (upd d i n) j + namesOf j (nd d i) = links d j + namesOf j n := by
 have hr := has_range hi
 have := sumBy_upd (namesOf j) hr.1 hr.2 n
 unfold links cnt
 omega
theorem links_same (hi : has d i) (he : n.ents = (nd d i).ents) (j : Int) : links (upd d i n) j = links d j := by
 have := links_upd (n := n) hi j
 have : namesOf j n = namesOf j (nd d i) := by unfold namesOf; rw [he]
 omega
theorem used_upd (hi : has d i) : used (upd d i n) + room1 (nd d i) = used d + room1 n := by
 have hr := has_range hi
 exact sumBy_upd room1 hr.1 hr.2 n
theorem mass_upd (hi : has d i) : mass (upd d i n) + mass1 (nd d i) = mass d + mass1 n := by
 have hr := has_range hi
 exact sumBy_upd mass1 hr.1 hr.2 n
theorem links_le (d : Nds) (i : Int) : links d i <= 1 + mass d := by
 have h : cnt d i <= mass d := by
  induction d with
  | nil => simp [cnt, sumBy]
  | cons a d ih =>
    simp only [cnt, mass, sumBy, List.map_cons, List.sum_cons] at ih ⊢
    have : namesOf i a <= mass1 a := by
     unfold namesOf mass1
     have := List.countP_le_length (p := fun e : Ent => decide (e.2 = i)) (l := a.ents)
     omega
    omega
 unfold links
 split <;> omega
theorem par_same (hi : has d i) (hk : n.kind = (nd d i).kind) (he : n.ents = (nd d i).ents) (j k : Int) : Par (upd d i n) j k ↔ Par d j k := by
 have hr := has_range hi
 unfold Par
 rw [nd_upd hr.1 hr.2, nd_upd hr.1 hr.2]
 by_cases e1 : k = i <;> by_cases e2 : j = i
 ·subst e1; subst e2; simp [hk, he]
 ·subst e1; simp [hk, e2]
 ·subst e2; simp [he, e1]
 ·simp [e1, e2]
theorem DInv.upd (h : DInv d) (hi : has d i) (hok : NdOk n) (hk : n.kind = (nd d i).kind) (he : n.ents = (nd d i).ents) : DInv (upd d i n) := by
 have hr := has_range hi
 have hpos := h.pos hi
 have hk0 : n.kind ≠ 0 := by rw [hk]; exact hi
 have hkind : ∀ j, (nd (Go.Proofs.YtnaenhekjdmlaaaGreatDoor.upd d i n) j).kind = (nd d j).kind := fun j => by
  rw [nd_upd hr.1 hr.2]
  split
  ·next e => subst e; exact hk
  ·rfl
 have hents : ∀ j, (nd (Go.Proofs.YtnaenhekjdmlaaaGreatDoor.upd d i n) j).ents = (nd d j).ents := fun j => by
  rw [nd_upd hr.1 hr.2]
  split
  ·next e => subst e; exact he
  ·rfl
 refine ⟨by rw [upd_length]; exact h.two, ?_, ?_, fun j => ?_, fun j e hj => ?_, fun j hj => ?_, fun j => ?_⟩
 ·rw [nd_upd hr.1 hr.2, if_neg (by omega)]; exact h.zero
 ·rw [hkind]; exact h.root
 ·rw [nd_upd hr.1 hr.2]
  split
  ·exact hok
  ·exact h.node j
 ·rw [hents] at hj
  exact ⟨(has_upd hi hk0 _).2 (h.tgt j e hj).1, (h.tgt j e hj).2⟩
 ·rw [hkind] at hj
  rw [links_same hi he]
  exact h.single j hj
 ·have := h.acyc j
  induction this with
  | intro j _ ih => exact ⟨j, fun k hk' => ih k ((par_same hi hk he k j).1 hk')⟩
end
def zp : Int -> Nat := fun _ => 0
theorem noPG_zp {d : Nds} : (∀ j, ¬ PG d zp j) ↔ NoGarb d :=
 ⟨fun h j hj => h j ⟨hj.1, hj.2.1, rfl, hj.2.2⟩, fun h j hj => h j hj.garb⟩
structure IsDisk (R : RD) (w : World) (a : Nat) (d : Nds) (room : Int) : Prop where
 casc : ∃ lk up, Casc R w a d room lk up zp
 clean : NoGarb d
 fits : (used d : Int) <= room
 max : room <= 9223372036854775807
section
variable {R R' : RD} {w w' : World} {a : Nat} {d d' : Nds} {room : Int}
theorem IsDisk.inv (h : IsDisk R w a d room) : DInv d := by obtain ⟨lk, up, hc⟩ := h.casc; exact hc.inv
theorem IsDisk.small (h : IsDisk R w a d room) : smallD d := by obtain ⟨lk, up, hc⟩ := h.casc; exact hc.small
theorem IsDisk.keep {F : Nat -> Prop} (h : IsDisk R w a d room) (k : Keeps F w w') (hF : ∀ x, x < w.heap.size -> F x -> R.tag x = .none) : IsDisk R w' a d room := by
 obtain ⟨⟨lk, up, hc⟩, h1, h2, h3⟩ := h
 exact ⟨⟨lk, up, hc.keep k hF⟩, h1, h2, h3⟩
theorem IsDisk.keepN (h : IsDisk R w a d room) (k : Keeps NoB w w') : IsDisk R w' a d room := h.keep k (fun _ _ h => h.elim)
theorem Kills.used {d d' : Nds} (k : Kills d d') : used d' <= used d := by
 induction k with
 | refl => exact Nat.le_refl _
 | step i hi _ ih => have := used_kill hi.1; omega
theorem Kills.smallD {d d' : Nds} (k : Kills d d') (h : smallD d) : smallD d' := by
 have := k.mass
 unfold Go.Proofs.YtnaenhekjdmlaaaGreatDoor.smallD at *
 omega
def DiskTo (R : RD) (w : World) (a : Nat) (d' : Nds) (room : Int) (w' : World) : Prop := ∃ R', IsDisk R' w' a d' room ∧ Turn R w R' w'
theorem IsDisk.same (h : IsDisk R w a d room) (k : Keeps NoB w w') : DiskTo R w a d room w' := ⟨R, h.keepN k, Turn.ofN k⟩
theorem DiskTo.on (h : DiskTo R w a d room w') {w'' : World} (k : Keeps NoB w' w'') : DiskTo R w a d room w'' := by
 obtain ⟨R', h1, h2⟩ := h
 exact ⟨R', h1.keepN k, h2.trans (Turn.ofN k)⟩
theorem DiskTo.drew (h : DiskTo R w a d room w') : DiskTo R w a d room w'.drew := h.on ((Keeps.refl _ _).drew)
theorem free_end {lk' up' : Int -> Int} (h : Casc R' w' a d' room lk' up' zp) (hn : ∀ j, ¬ PG d' zp j) (hk : Kills d d') (hf : (used d : Int) <= room) (hm : room <= 9223372036854775807) : IsDisk R' w' a (gc d) room := by
 have hn' := noPG_zp.1 hn
 rw [gc_eq hk hn']
 have := hk.used
 exact ⟨⟨lk', up', h⟩, hn', by omega, hm⟩
theorem Casc.upd {lk up : Int -> Int} {pend : Int -> Nat} {i : Int} {n : Nd} (h : Casc R w a d room lk up pend) (hi : has d i) (hok : NdOk n) (hk : n.kind = (nd d i).kind) (he : n.ents = (nd d i).ents)
 (rep : Rep R' w' a (Go.Proofs.YtnaenhekjdmlaaaGreatDoor.upd d i n) room (used (Go.Proofs.YtnaenhekjdmlaaaGreatDoor.upd d i n)) lk up) (hs : Go.Proofs.YtnaenhekjdmlaaaGreatDoor.smallD (Go.Proofs.YtnaenhekjdmlaaaGreatDoor.upd d i n)) : Casc R' w' a (Go.Proofs.YtnaenhekjdmlaaaGreatDoor.upd d i n) room lk up pend := by
 have hk0 : n.kind ≠ 0 := by rw [hk]; exact hi
 refine ⟨rep, h.inv.upd hi hok hk he, fun j hj => ?_, fun j hj => (has_upd hi hk0 j).2 (h.pres j hj), fun j hj => ?_, hs, fun j hj => h.lkb j ((has_upd hi hk0 j).1 hj)⟩
 ·rw [links_same hi he]; exact h.cnt j ((has_upd hi hk0 j).1 hj)
 ·obtain ⟨h1, h2, h3⟩ := h.upok j ((has_upd hi hk0 j).1 hj)
  exact ⟨fun k hk' => h1 k ((par_same hi hk he k j).1 hk'), h2, h3⟩
end
end Go.Proofs.YtnaenhekjdmlaaaGreatDoor
