/-
  The plain laws of a directory's entries: lists ordered by name. No program in sight.
-/
import Derived.Lib.Bytealg
import Derived.Lib.MinMaxS

set_option linter.unusedSimpArgs false
set_option linter.unusedVariables false

set_option maxRecDepth 100000
namespace Go.Proofs.YtfomkkoecelakaaDoor

/-- An entry: a name, and which node it names. -/
abbrev Ent := ByteArray × Int

/-- The order of names, byte by byte. -/
def bLt (a b : ByteArray) : Bool := decide (a.data.toList < b.data.toList)

theorem bLt_irrefl (a : ByteArray) : bLt a a = false := by simp [bLt, List.lt_irrefl]
theorem bLt_trans {a b c : ByteArray} (h : bLt a b = true) (k : bLt b c = true) : bLt a c = true := by
  simp only [bLt, decide_eq_true_eq] at *; exact List.lt_trans h k
theorem bLt_asymm {a b : ByteArray} (h : bLt a b = true) : bLt b a = false := by
  cases hb : bLt b a with
  | false => rfl
  | true => have := bLt_trans h hb; rw [bLt_irrefl] at this; cases this
theorem eq_of_data {a b : ByteArray} (h : a.data.toList = b.data.toList) : a = b := by
  cases a; cases b; congr; exact Array.toList_inj.1 h
theorem bLt_total {a b : ByteArray} (h : bLt a b = false) (k : bLt b a = false) : a = b := by
  simp only [bLt, decide_eq_false_iff_not, List.not_lt] at h k
  exact eq_of_data (List.le_antisymm k h)

theorem cmp_lists (a b : List UInt8) : (Lib.compareBytes a b < 0 ↔ a < b) ∧ (Lib.compareBytes a b = 0 ↔ a = b) := by
  induction a generalizing b with
  | nil =>
    cases b with
    | nil => simp [Lib.compareBytes]
    | cons b bs => simp [Lib.compareBytes]
  | cons a la ih =>
    cases b with
    | nil => simp [Lib.compareBytes]
    | cons b bs =>
      have ih := ih bs
      unfold Lib.compareBytes
      by_cases h1 : a < b
      · have hne : a ≠ b := by intro e; subst e; exact absurd h1 (UInt8.lt_irrefl _)
        simp [h1, List.cons_lt_cons_iff, hne]
      · by_cases h2 : b < a
        · have hne : a ≠ b := by intro e; subst e; exact absurd h2 (UInt8.lt_irrefl _)
          simp [h1, h2, List.cons_lt_cons_iff, hne]
        · have he : a = b := UInt8.le_antisymm (UInt8.not_lt.1 h2) (UInt8.not_lt.1 h1)
          subst he
          simp [List.cons_lt_cons_iff, ih.1, ih.2]

theorem cmp_neg0 (a b : ByteArray) : decide (Lib.compareBytes a.data.toList b.data.toList < 0) = bLt a b := by
  simp only [bLt, (cmp_lists a.data.toList b.data.toList).1]
theorem cmp_zero0 (a b : ByteArray) : Lib.compareBytes a.data.toList b.data.toList = 0 ↔ a = b :=
  (cmp_lists a.data.toList b.data.toList).2.trans ⟨eq_of_data, fun h => by rw [h]⟩
theorem less_eq (a b : ByteArray) : Op.bytesLess a.toList b.toList = bLt a b := by
  simp only [bLt, Lib.toList_data]
  rw [Proofs.bytesLess_eq]
theorem toList_eq (a b : ByteArray) : (a.toList == b.toList) = decide (a = b) := by
  rw [Bool.eq_iff_iff]; simp only [beq_iff_eq, decide_eq_true_eq, Lib.toList_data]
  exact ⟨eq_of_data, fun h => by rw [h]⟩

/-- Entries rise by name. -/
def Rising (l : List Ent) : Prop := l.Pairwise (fun a b => bLt a.1 b.1 = true)

/-- How many entries stand ahead of a name. -/
def lb (l : List Ent) (name : ByteArray) : Nat := (l.takeWhile fun e => bLt e.1 name).length

/-- The node of a name. -/
def entGet (l : List Ent) (name : ByteArray) : Option Int := (l.find? fun e => decide (e.1 = name)).map (·.2)
def entHas (l : List Ent) (name : ByteArray) : Bool := l.any fun e => decide (e.1 = name)
def entDel (l : List Ent) (name : ByteArray) : List Ent := l.filter fun e => !decide (e.1 = name)
def entSet (l : List Ent) (name : ByteArray) (n : Int) : List Ent := l.map fun e => if e.1 = name then (e.1, n) else e
def entPut (l : List Ent) (name : ByteArray) (n : Int) : List Ent := l.filter (fun e => bLt e.1 name) ++ [(name, n)] ++ l.filter (fun e => bLt name e.1)
/-- Does s begin with p? -/
def bPre (s p : ByteArray) : Bool := p.data.toList.isPrefixOf s.data.toList
/-- strings.Compare -/
def bCmp (a b : ByteArray) : Int := Lib.compareBytes a.data.toList b.data.toList
/-- strings.IndexByte -/
def bIdx (s : ByteArray) (c : UInt8) : Int := Lib.indexByte s.data.toList c
def entFrom (l : List Ent) (head : ByteArray) : List Ent := l.filter fun e => bPre e.1 head
def entSize (l : List Ent) : Nat := (l.map fun e => e.1.size).sum

def hasB (s : ByteArray) (c : UInt8) : Bool := s.data.toList.contains c
def okName (s : ByteArray) : Bool :=
  decide (1 ≤ s.size) && decide (s.size ≤ 255) && s.data.toList != [46] && s.data.toList != [46, 46] && !hasB s 47 && !hasB s 0

/-- The number of the error of Put: 0 is none. -/
def putErr (l : List Ent) (name : ByteArray) : Int :=
  if 255 < name.size then 18 else if okName name = false then 11 else if entHas l name then 13 else 0

/-- The entries behind Put, Set, Drop. -/
def putTo (l : List Ent) (name : ByteArray) (n : Int) : List Ent := if putErr l name = 0 then entPut l name n else l
def hasErr (l : List Ent) (name : ByteArray) : Int := if entHas l name then 0 else 12

/-- The place of a name, -1: none. -/
def entIdx (l : List Ent) (name : ByteArray) : Int := if entHas l name then lb l name else -1

theorem indexByte_neg (l : List UInt8) (c : UInt8) : decide (Lib.indexByte l c < 0) = !l.contains c := by
  have hg := Lib.indexByte_ge
  induction l with
  | nil => rfl
  | cons b l ih =>
    unfold Lib.indexByte
    by_cases hb : (b == c) = true
    · have : b = c := by simpa using hb
      subst this
      simp
    · have hne : ¬ c = b := fun e => hb (by simp [e])
      have ih' : (Lib.indexByte l c < 0) ↔ ¬ c ∈ l := by
        have := ih; rw [Bool.eq_iff_iff] at this; simpa using this
      have h1 := hg l c
      simp only [hb, Bool.false_eq_true, if_false]
      rw [Bool.eq_iff_iff]
      by_cases h2 : Lib.indexByte l c = -1
      · have : ¬ c ∈ l := ih'.1 (by omega)
        simp [h2, hne, this]
      · have : c ∈ l := Decidable.byContradiction fun h => by have := ih'.2 h; omega
        simp [h2, hne, this]; omega

theorem bCmp_neg (a b : ByteArray) : bCmp a b < 0 ↔ bLt a b = true := by
  have := cmp_neg0 a b; rw [Bool.eq_iff_iff] at this; simpa [bCmp] using this
theorem bCmp_zero (a b : ByteArray) : bCmp a b = 0 ↔ a = b := cmp_zero0 a b
theorem bIdx_neg (s : ByteArray) (c : UInt8) : bIdx s c < 0 ↔ hasB s c = false := by
  have := indexByte_neg s.data.toList c; rw [Bool.eq_iff_iff] at this; simpa [bIdx, hasB] using this
theorem hasB_iff (s : ByteArray) (c : UInt8) : hasB s c = true ↔ ∃ (j : Nat) (h : j < s.size), s[j] = c := by
  obtain ⟨⟨l⟩⟩ := s
  simp only [hasB, List.contains_iff_mem]
  constructor
  · intro h
    obtain ⟨j, hj, e⟩ := List.getElem_of_mem h
    exact ⟨j, hj, e⟩
  · rintro ⟨j, hj, rfl⟩
    exact List.getElem_mem (l := l) hj
theorem byte_eq (x : UInt8) (c : Int) (h0 : 0 ≤ c) (h1 : c < 256) : ((x.toNat : Int) == c) = decide (x = c.toNat.toUInt8) := by
  have := x.toNat_lt
  rw [Bool.eq_iff_iff, beq_iff_eq, decide_eq_true_eq]
  constructor
  · intro h
    apply UInt8.toNat_inj.1
    have e : c.toNat.toUInt8.toNat = c.toNat % 256 := by simp
    rw [e, ← h, Int.toNat_natCast]
    omega
  · intro h
    rw [h]
    have e : c.toNat.toUInt8.toNat = c.toNat % 256 := by simp
    rw [e]; omega
theorem toList_nil (s : ByteArray) : s.toList = [] ↔ s.size = 0 := by
  rw [Lib.toList_data, Lib.size_eq, List.length_eq_zero_iff]

/-- A right name, in the spelling of package path. -/
theorem okName_eq (s : ByteArray) : okName s = (!s.toList.isEmpty && decide ((s.size : Int) ≤ 255) && !(s.toList == [46]) && !(s.toList == [46, 46]) && decide (bIdx s 47 < 0) && decide (bIdx s 0 < 0)) := by
  have h0 := toList_nil s
  have h1 : (s.toList.isEmpty = true) ↔ s.size = 0 := by rw [List.isEmpty_iff]; exact h0
  rw [Bool.eq_iff_iff]
  simp only [okName, Bool.and_eq_true, decide_eq_true_eq, bIdx_neg, Bool.not_eq_true', beq_eq_false_iff_ne, bne_iff_ne, Lib.toList_data] at *
  have h2 : (s.data.toList.isEmpty = false) ↔ ¬ s.size = 0 := by rw [← h1]; simp
  rw [h2]
  constructor
  · rintro ⟨⟨⟨⟨⟨a, b⟩, c⟩, d⟩, e⟩, f⟩; exact ⟨⟨⟨⟨⟨by omega, by omega⟩, c⟩, d⟩, e⟩, f⟩
  · rintro ⟨⟨⟨⟨⟨a, b⟩, c⟩, d⟩, e⟩, f⟩; exact ⟨⟨⟨⟨⟨by omega, by omega⟩, c⟩, d⟩, e⟩, f⟩

theorem okName_eq2 (s : ByteArray) : okName s = (decide (1 ≤ (s.size : Int)) && decide ((s.size : Int) ≤ 255) && !hasB s 47 && !hasB s 0 && !(s.toList == [46]) && !(s.toList == [46, 46])) := by
  rw [Bool.eq_iff_iff]
  simp only [okName, Bool.and_eq_true, decide_eq_true_eq, Bool.not_eq_true', beq_eq_false_iff_ne, bne_iff_ne, Lib.toList_data]
  constructor
  · rintro ⟨⟨⟨⟨⟨a, b⟩, c⟩, d⟩, e⟩, f⟩; exact ⟨⟨⟨⟨⟨by omega, by omega⟩, e⟩, f⟩, c⟩, d⟩
  · rintro ⟨⟨⟨⟨⟨a, b⟩, c⟩, d⟩, e⟩, f⟩; exact ⟨⟨⟨⟨⟨by omega, by omega⟩, e⟩, f⟩, c⟩, d⟩

/-! ### what a rising list gives -/

theorem Rising.get {l : List Ent} (h : Rising l) {i j : Nat} {x y : Ent} (hi : l[i]? = some x) (hj : l[j]? = some y) (hij : i < j) : bLt x.1 y.1 = true := by
  obtain ⟨hi1, hi2⟩ := List.getElem?_eq_some_iff.1 hi
  obtain ⟨hj1, hj2⟩ := List.getElem?_eq_some_iff.1 hj
  have := List.pairwise_iff_getElem.1 h i j hi1 hj1 hij
  rw [hi2, hj2] at this; exact this

/-- lb is the place from which on no entry is less. -/
theorem lb_unique {l : List Ent} {name : ByteArray} (i : Nat) (hi : i ≤ l.length) (h1 : ∀ j x, j < i → l[j]? = some x → bLt x.1 name = true) (h2 : ∀ x, l[i]? = some x → bLt x.1 name = false) : lb l name = i := by
  unfold lb
  induction l generalizing i with
  | nil => simp at hi; subst hi; rfl
  | cons a l ih =>
    cases i with
    | zero =>
      have := h2 a rfl
      simp [List.takeWhile_cons, this]
    | succ i =>
      have ha := h1 0 a (by omega) rfl
      rw [List.takeWhile_cons, ha]
      simp only [if_true, List.length_cons]
      congr 1
      exact ih i (by simpa using hi) (fun j x hj hx => h1 (j + 1) x (by omega) (by simpa using hx)) (fun x hx => h2 x (by simpa using hx))

theorem lb_le (l : List Ent) (name : ByteArray) : lb l name ≤ l.length := (List.takeWhile_prefix _).length_le

theorem lb_before {l : List Ent} {name : ByteArray} {j : Nat} {x : Ent} (hj : j < lb l name) (hx : l[j]? = some x) : bLt x.1 name = true := by
  unfold lb at hj
  induction l generalizing j with
  | nil => simp at hj
  | cons a l ih =>
    by_cases ha : bLt a.1 name = true
    · rw [List.takeWhile_cons, if_pos ha] at hj
      cases j with
      | zero => simp at hx; subst hx; exact ha
      | succ j => exact ih (by simpa using hj) (by simpa using hx)
    · rw [List.takeWhile_cons, if_neg ha] at hj; simp at hj

theorem lb_at {l : List Ent} {name : ByteArray} {x : Ent} (hx : l[lb l name]? = some x) : bLt x.1 name = false := by
  unfold lb at hx
  induction l with
  | nil => simp at hx
  | cons a l ih =>
    by_cases ha : bLt a.1 name = true
    · rw [List.takeWhile_cons, if_pos ha] at hx; exact ih (by simpa using hx)
    · rw [List.takeWhile_cons, if_neg ha] at hx; simp at hx; subst hx; simpa using ha

/-- At and behind lb no entry is less. -/
theorem lb_after {l : List Ent} (h : Rising l) {name : ByteArray} {j : Nat} {x : Ent} (hj : lb l name ≤ j) (hx : l[j]? = some x) : bLt x.1 name = false := by
  have hjl := (List.getElem?_eq_some_iff.1 hx).1
  obtain ⟨y, hy⟩ : ∃ y, l[lb l name]? = some y := ⟨_, List.getElem?_eq_getElem (by omega)⟩
  have h1 := lb_at hy
  by_cases he : j = lb l name
  · subst he; exact lb_at hx
  · have h2 := h.get hy hx (by omega)
    cases hc : bLt x.1 name with
    | false => rfl
    | true => rw [bLt_trans h2 hc] at h1; cases h1

/-- The name is there just where it stands at lb. -/
theorem lb_has {l : List Ent} (h : Rising l) (name : ByteArray) : entHas l name = match l[lb l name]? with | some x => decide (x.1 = name) | none => false := by
  rw [Bool.eq_iff_iff]
  simp only [entHas, List.any_eq_true, decide_eq_true_eq]
  constructor
  · rintro ⟨x, hx, rfl⟩
    obtain ⟨j, hj⟩ := List.mem_iff_getElem?.1 hx
    have hle : lb l x.1 ≤ j := Nat.le_of_not_lt fun hlt => by have := lb_before hlt hj; rw [bLt_irrefl] at this; cases this
    have hjl := (List.getElem?_eq_some_iff.1 hj).1
    obtain ⟨y, hy⟩ : ∃ y, l[lb l x.1]? = some y := ⟨_, List.getElem?_eq_getElem (by omega)⟩
    rw [hy]
    simp only [decide_eq_true_eq]
    by_cases he : lb l x.1 = j
    · rw [he] at hy; rw [hj] at hy; cases hy; rfl
    · have h1 := h.get hy hj (by omega)
      have h2 := lb_at hy
      rw [h1] at h2; cases h2
  · intro hm
    cases hl : l[lb l name]? with
    | none => rw [hl] at hm; cases hm
    | some x => rw [hl] at hm; exact ⟨x, List.mem_of_getElem? hl, by simpa using hm⟩

/-- The list parts at lb. -/
theorem lb_split {l : List Ent} (h : Rising l) (name : ByteArray) : l.take (lb l name) = l.filter (fun e => bLt e.1 name) ∧ l.drop (lb l name) = l.filter (fun e => !bLt e.1 name) := by
  unfold lb
  induction l with
  | nil => simp
  | cons a l ih =>
    have ih := ih (List.Pairwise.of_cons h)
    have hall := (List.pairwise_cons.1 h).1
    by_cases ha : bLt a.1 name = true
    · simp only [List.takeWhile_cons, ha, if_true, List.length_cons, List.take_succ_cons, List.drop_succ_cons, List.filter_cons, Bool.not_true, Bool.false_eq_true, if_false]
      exact ⟨by rw [ih.1], ih.2⟩
    · have hno : ∀ x ∈ l, bLt x.1 name = false := fun x hx => by
        cases hc : bLt x.1 name with
        | false => rfl
        | true => exact absurd (bLt_trans (hall x hx) hc) ha
      have e1 : l.filter (fun e => bLt e.1 name) = [] := List.filter_eq_nil_iff.2 fun x hx => by rw [hno x hx]; simp
      have e2 : l.filter (fun e => !bLt e.1 name) = l := List.filter_eq_self.2 fun x hx => by rw [hno x hx]; rfl
      simp [List.takeWhile_cons, ha, List.filter_cons, e1, e2]

theorem ne_of_lt {a b : ByteArray} (h : bLt a b = true) : a ≠ b := fun e => by subst e; rw [bLt_irrefl] at h; cases h

/-- Insertion at lb. -/
theorem put_at {l : List Ent} (h : Rising l) (name : ByteArray) (n : Int) (hno : entHas l name = false) : l.take (lb l name) ++ (name, n) :: l.drop (lb l name) = entPut l name n := by
  obtain ⟨h1, h2⟩ := lb_split h name
  rw [h1, h2]
  unfold entPut
  rw [List.append_assoc]
  congr 1
  rw [List.singleton_append]; congr 1
  refine List.filter_congr fun x hx => ?_
  have hne : x.1 ≠ name := fun e => by
    have : entHas l name = true := List.any_eq_true.2 ⟨x, hx, by simp [e]⟩
    rw [this] at hno; cases hno
  cases hc : bLt x.1 name with
  | true => rw [bLt_asymm hc]; rfl
  | false =>
    cases hd : bLt name x.1 with
    | true => rfl
    | false => exact absurd (bLt_total hc hd) hne

theorem Rising.filter {l : List Ent} (h : Rising l) (p : Ent → Bool) : Rising (l.filter p) := List.Pairwise.filter _ h

theorem Rising.put {l : List Ent} (h : Rising l) (name : ByteArray) (n : Int) : Rising (entPut l name n) := by
  unfold entPut Rising
  rw [List.append_assoc, List.pairwise_append]
  refine ⟨h.filter _, ?_, ?_⟩
  · simp only [List.singleton_append, List.pairwise_cons]
    exact ⟨fun x hx => (by simpa using (List.mem_filter.1 hx).2), h.filter _⟩
  · intro x hx y hy
    have hx := (List.mem_filter.1 hx).2
    simp only [List.singleton_append, List.mem_cons] at hy
    rcases hy with rfl | hy
    · exact hx
    · exact bLt_trans hx (by simpa using (List.mem_filter.1 hy).2)

theorem Rising.del {l : List Ent} (h : Rising l) (name : ByteArray) : Rising (entDel l name) := h.filter _

theorem Rising.set {l : List Ent} (h : Rising l) (name : ByteArray) (n : Int) : Rising (entSet l name n) := by
  unfold entSet Rising
  rw [List.pairwise_map]
  refine h.imp fun {a b} hab => ?_
  split <;> split <;> exact hab

/-- Taking away at lb. -/
theorem del_at {l : List Ent} (h : Rising l) (name : ByteArray) (hyes : entHas l name = true) : l.take (lb l name) ++ l.drop (lb l name + 1) = entDel l name := by
  rw [lb_has h] at hyes
  cases hl : l[lb l name]? with
  | none => rw [hl] at hyes; cases hyes
  | some x =>
    rw [hl] at hyes
    have hx : x.1 = name := by simpa using hyes
    have hlt := (List.getElem?_eq_some_iff.1 hl).1
    have hsplit : l = l.take (lb l name) ++ x :: l.drop (lb l name + 1) := by
      conv => lhs; rw [← List.take_append_drop (lb l name) l, List.drop_eq_getElem_cons hlt]
      rw [(List.getElem?_eq_some_iff.1 hl).2]
    have hp := h
    unfold Rising at hp
    rw [hsplit, List.pairwise_append, List.pairwise_cons] at hp
    obtain ⟨_, ⟨ha, _⟩, hb⟩ := hp
    conv => rhs; rw [hsplit]
    unfold entDel
    rw [List.filter_append, List.filter_cons_of_neg (by simp [hx])]
    rw [List.filter_eq_self.2 (fun y hy => by have := ne_of_lt (hb y hy x (by simp)); rw [hx] at this; simpa using this)]
    rw [List.filter_eq_self.2 (fun y hy => by have := ne_of_lt (ha y hy); rw [hx] at this; simpa using (Ne.symm this))]

theorem set_at {l : List Ent} (h : Rising l) (name : ByteArray) (n : Int) {x : Ent} (hl : l[lb l name]? = some x) (hx : x.1 = name) : l.set (lb l name) (x.1, n) = entSet l name n := by
  apply List.ext_getElem?
  intro j
  unfold entSet
  rw [List.getElem?_map, List.getElem?_set]
  have hlt := (List.getElem?_eq_some_iff.1 hl).1
  by_cases hj : lb l name = j
  · subst hj
    rw [if_pos rfl, if_pos hlt, hl]; simp [hx]
  · rw [if_neg hj]
    cases hy : l[j]? with
    | none => rfl
    | some y =>
      have hne : y.1 ≠ name := by
        rcases Nat.lt_or_gt_of_ne hj with hlt' | hlt'
        · have := ne_of_lt (h.get hl hy hlt'); rw [hx] at this; exact this.symm
        · have := ne_of_lt (h.get hy hl hlt'); rw [hx] at this; exact this
      simp [hne]

theorem get_at {l : List Ent} (h : Rising l) (name : ByteArray) : entGet l name = match l[lb l name]? with | some x => if x.1 = name then some x.2 else none | none => none := by
  cases hh : entHas l name with
  | false =>
    have hn : l.find? (fun e => decide (e.1 = name)) = none := by
      rw [List.find?_eq_none]; intro x hx hc
      have : entHas l name = true := List.any_eq_true.2 ⟨x, hx, hc⟩
      rw [this] at hh; cases hh
    rw [lb_has h] at hh
    unfold entGet; rw [hn]
    cases hl : l[lb l name]? with
    | none => rfl
    | some x => rw [hl] at hh; simp at hh; simp [hh]
  | true =>
    rw [lb_has h] at hh
    cases hl : l[lb l name]? with
    | none => rw [hl] at hh; cases hh
    | some x =>
      rw [hl] at hh
      have hx : x.1 = name := by simpa using hh
      simp only [hx, if_true]
      unfold entGet
      have : l.find? (fun e => decide (e.1 = name)) = some x := by
        rw [List.find?_eq_some_iff_getElem]
        have hlt := (List.getElem?_eq_some_iff.1 hl)
        refine ⟨by simp [hx], lb l name, hlt.1, hlt.2, fun j hj => ?_⟩
        have hltl := hlt.1
        have := ne_of_lt (lb_before hj (List.getElem?_eq_getElem (by omega)))
        simpa using this
      rw [this]; rfl


theorem entIdx_nonneg {l : List Ent} {name : ByteArray} : decide (0 ≤ entIdx l name) = entHas l name := by
  unfold entIdx; cases entHas l name <;> simp
theorem entIdx_neg {l : List Ent} {name : ByteArray} : decide (entIdx l name < 0) = !entHas l name := by
  unfold entIdx; cases entHas l name <;> simp

/-- The first place of a name, in a rising list. -/
theorem lb_of_first {l : List Ent} (h : Rising l) {name : ByteArray} {k : Nat} {x : Ent} (hx : l[k]? = some x) (he : x.1 = name) : lb l name = k ∧ entHas l name = true := by
  have hh : entHas l name = true := List.any_eq_true.2 ⟨x, List.mem_of_getElem? hx, by simp [he]⟩
  refine ⟨lb_unique k (by have := (List.getElem?_eq_some_iff.1 hx).1; omega) (fun j y hj hy => ?_) (fun y hy => ?_), hh⟩
  · have := h.get hy hx hj; rw [he] at this; exact this
  · rw [hx] at hy; cases hy; rw [he]; exact bLt_irrefl _

theorem entHas_false {l : List Ent} {name : ByteArray} (h : ∀ (k : Nat) (x : Ent), l[k]? = some x → ¬ x.1 = name) : entHas l name = false := by
  rw [← Bool.not_eq_true, entHas, List.any_eq_true]
  rintro ⟨x, hx, he⟩
  obtain ⟨k, hk⟩ := List.mem_iff_getElem?.1 hx
  exact h k x hk (by simpa using he)

theorem filter_take_snoc {α : Type} (l : List α) (p : α → Bool) (k : Nat) (x : α) (h : l[k]? = some x) : (l.take (k + 1)).filter p = (l.take k).filter p ++ (if p x then [x] else []) := by
  rw [List.take_add_one, h]
  simp only [Option.toList_some, List.filter_append]
  cases hp : p x <;> simp [hp]

theorem string_eq (a b : ByteArray) : (a.toList == b.toList) = decide (a = b) := toList_eq a b

end Go.Proofs.YtfomkkoecelakaaDoor

/-
  More plain laws of a directory's entries: what Put, Set and Drop do to them as a heap of pairs. No program in sight.
-/
set_option maxRecDepth 100000
namespace Go.Proofs.YtfomkkoecelakaaDoor

theorem mem_entPut {es : List Ent} {name : ByteArray} {n : Int} (hno : entHas es name = false) (e : Ent) : e ∈ entPut es name n ↔ e ∈ es ∨ e = (name, n) := by
  have hne : ∀ x ∈ es, x.1 ≠ name := fun x hx e => by
    have : entHas es name = true := List.any_eq_true.2 ⟨x, hx, by simp [e]⟩
    rw [hno] at this; cases this
  unfold entPut
  simp only [List.mem_append, List.mem_filter, List.mem_singleton]
  constructor
  · rintro ((⟨h, _⟩ | h) | ⟨h, _⟩)
    · exact .inl h
    · exact .inr h
    · exact .inl h
  · rintro (h | h)
    · cases h1 : bLt e.1 name with
      | true => exact .inl (.inl ⟨h, rfl⟩)
      | false =>
        cases h2 : bLt name e.1 with
        | true => exact .inr ⟨h, rfl⟩
        | false => exact absurd (bLt_total h1 h2) (hne e h)
    · exact .inl (.inr h)

theorem entHas_iff {es : List Ent} {name : ByteArray} : entHas es name = true ↔ ∃ e ∈ es, e.1 = name := by simp [entHas]

theorem entGet_isSome (es : List Ent) (name : ByteArray) : (entGet es name).isSome = entHas es name := by
  rw [Bool.eq_iff_iff, entHas_iff]
  simp [entGet]

theorem entGet_none {es : List Ent} {name : ByteArray} (h : entHas es name = false) : entGet es name = none := by
  have := entGet_isSome es name
  rw [h] at this
  simpa using this

theorem entGet_has {es : List Ent} {name : ByteArray} {k : Int} (h : entGet es name = some k) : entHas es name = true := by
  rw [← entGet_isSome, h]; rfl

theorem entGet_mem {es : List Ent} {name : ByteArray} {k : Int} (h : entGet es name = some k) : (name, k) ∈ es := by
  unfold entGet at h
  rw [Option.map_eq_some_iff] at h
  obtain ⟨e, he, rfl⟩ := h
  have h1 := List.find?_some he
  have h2 := List.mem_of_find?_eq_some he
  have : e.1 = name := by simpa using h1
  subst this
  exact h2

theorem entPut_perm {es : List Ent} {name : ByteArray} {n : Int} (hno : entHas es name = false) : (entPut es name n).Perm ((name, n) :: es) := by
  have hne : ∀ x ∈ es, x.1 ≠ name := fun x hx e => by
    have : entHas es name = true := List.any_eq_true.2 ⟨x, hx, by simp [e]⟩
    rw [hno] at this; cases this
  have hgt : es.filter (fun e => bLt name e.1) = es.filter (fun e => !bLt e.1 name) := by
    refine List.filter_congr fun x hx => ?_
    cases h1 : bLt x.1 name with
    | true => rw [bLt_asymm h1]; rfl
    | false =>
      cases h2 : bLt name x.1 with
      | true => rfl
      | false => exact absurd (bLt_total h1 h2) (hne x hx)
  unfold entPut
  rw [hgt, List.append_assoc]
  refine List.perm_middle.trans (List.Perm.cons _ ?_)
  exact List.filter_append_perm _ _

theorem ent_split {es : List Ent} (h : Rising es) {name : ByteArray} {k : Int} (hk : entGet es name = some k) :
    es[lb es name]? = some (name, k) ∧ es = es.take (lb es name) ++ (name, k) :: es.drop (lb es name + 1) := by
  rw [get_at h] at hk
  cases hl : es[lb es name]? with
  | none => rw [hl] at hk; cases hk
  | some x =>
    rw [hl] at hk
    simp only at hk
    split at hk
    · next e =>
      cases hk
      have hx : x = (name, x.2) := by rw [← e]
      refine ⟨by rw [← hx], ?_⟩
      obtain ⟨h1, h2⟩ := List.getElem?_eq_some_iff.1 hl
      rw [← hx, ← h2, List.getElem_cons_drop, List.take_append_drop]
    · cases hk

theorem entDel_perm {es : List Ent} (h : Rising es) {name : ByteArray} {k : Int} (hk : entGet es name = some k) : es.Perm ((name, k) :: entDel es name) := by
  have h2 := (ent_split h hk).2
  have hd := del_at h name (entGet_has hk)
  conv => lhs; rw [h2]
  refine List.perm_middle.trans (List.Perm.cons _ ?_)
  rw [hd]

theorem entSet_perm {es : List Ent} (h : Rising es) {name : ByteArray} {k : Int} (n : Int) (hk : entGet es name = some k) : (entSet es name n).Perm ((name, n) :: entDel es name) := by
  obtain ⟨h1, h2⟩ := ent_split h hk
  have hs := set_at h name n h1 rfl
  have hd := del_at h name (entGet_has hk)
  obtain ⟨hl, _⟩ := List.getElem?_eq_some_iff.1 h1
  rw [← hs, List.set_eq_take_append_cons_drop, if_pos hl]
  refine List.perm_middle.trans (List.Perm.cons _ ?_)
  rw [hd]

theorem entSize_perm {l m : List Ent} (h : l.Perm m) : entSize l = entSize m := by
  unfold entSize
  exact (h.map _).sum_nat


theorem entHas_put {es : List Ent} {name : ByteArray} {n : Int} (hno : entHas es name = false) (x : ByteArray) : entHas (entPut es name n) x = (entHas es x || decide (x = name)) := by
  rw [Bool.eq_iff_iff, entHas_iff, Bool.or_eq_true, entHas_iff]
  simp only [mem_entPut hno, decide_eq_true_eq]
  constructor
  · rintro ⟨e, h | h, rfl⟩
    · exact .inl ⟨e, h, rfl⟩
    · subst h; exact .inr rfl
  · rintro (⟨e, h, rfl⟩ | h)
    · exact ⟨e, .inl h, rfl⟩
    · exact ⟨_, .inr rfl, h.symm⟩

theorem entHas_del {es : List Ent} {name x : ByteArray} : entHas (entDel es name) x = (entHas es x && !decide (x = name)) := by
  rw [Bool.eq_iff_iff, entHas_iff, Bool.and_eq_true, entHas_iff]
  simp only [entDel, List.mem_filter, Bool.not_eq_true', decide_eq_false_iff_not]
  constructor
  · rintro ⟨e, ⟨h1, h2⟩, rfl⟩; exact ⟨⟨e, h1, rfl⟩, h2⟩
  · rintro ⟨⟨e, h1, rfl⟩, h2⟩; exact ⟨e, ⟨h1, h2⟩, rfl⟩

/-- Rows that rise and hold the same pairs are the same. -/
theorem rising_ext : ∀ {l m : List Ent}, Rising l → Rising m → (∀ e, e ∈ l ↔ e ∈ m) → l = m
  | [], [], _, _, _ => rfl
  | [], b :: m, _, _, h => by have := (h b).2 (by simp); cases this
  | a :: l, [], _, _, h => by have := (h a).1 (by simp); cases this
  | a :: l, b :: m, hl, hm, h => by
    have hl' := List.pairwise_cons.1 hl
    have hm' := List.pairwise_cons.1 hm
    have hab : a = b := by
      rcases List.mem_cons.1 ((h a).1 (by simp)) with e | e
      · exact e
      · rcases List.mem_cons.1 ((h b).2 (by simp)) with e2 | e2
        · exact e2.symm
        · have h1 := hm'.1 a e
          have h2 := hl'.1 b e2
          rw [bLt_asymm h1] at h2; cases h2
    subst hab
    congr 1
    refine rising_ext hl'.2 hm'.2 fun e => ?_
    constructor
    · intro he
      rcases List.mem_cons.1 ((h e).1 (List.mem_cons_of_mem _ he)) with e2 | e2
      · subst e2; have := hl'.1 e he; rw [bLt_irrefl] at this; cases this
      · exact e2
    · intro he
      rcases List.mem_cons.1 ((h e).2 (List.mem_cons_of_mem _ he)) with e2 | e2
      · subst e2; have := hm'.1 e he; rw [bLt_irrefl] at this; cases this
      · exact e2

theorem entDel_put {es : List Ent} (h : Rising es) {name : ByteArray} {n : Int} (hno : entHas es name = false) : entDel (entPut es name n) name = es := by
  refine rising_ext ((h.put name n).del name) h fun e => ?_
  unfold entDel
  rw [List.mem_filter, mem_entPut hno]
  constructor
  · rintro ⟨h1 | h1, h2⟩
    · exact h1
    · subst h1; simp at h2
  · intro he
    refine ⟨.inl he, ?_⟩
    cases hd : decide (e.1 = name) with
    | false => rfl
    | true =>
      have : entHas es name = true := List.any_eq_true.2 ⟨e, he, hd⟩
      rw [this] at hno; cases hno

theorem entGet_put {es : List Ent} (h : Rising es) {name : ByteArray} {n : Int} (hno : entHas es name = false) : entGet (entPut es name n) name = some n := by
  have hp := h.put name n
  have hm : (name, n) ∈ entPut es name n := (mem_entPut hno _).2 (.inr rfl)
  obtain ⟨k, hk⟩ := List.mem_iff_getElem?.1 hm
  obtain ⟨h1, _⟩ := lb_of_first hp hk rfl
  rw [get_at hp, h1, hk]
  simp

theorem rising_name {l : List Ent} (h : Rising l) {x y : Ent} (hx : x ∈ l) (hy : y ∈ l) (e : x.1 = y.1) : x = y := by
  obtain ⟨i, hi⟩ := List.mem_iff_getElem?.1 hx
  obtain ⟨j, hj⟩ := List.mem_iff_getElem?.1 hy
  rcases Nat.lt_trichotomy i j with h1 | h1 | h1
  · have := h.get hi hj h1; rw [e, bLt_irrefl] at this; cases this
  · subst h1; rw [hi] at hj; cases hj; rfl
  · have := h.get hj hi h1; rw [e, bLt_irrefl] at this; cases this

theorem entGet_iff {l : List Ent} (h : Rising l) {name : ByteArray} {k : Int} : entGet l name = some k ↔ (name, k) ∈ l := by
  refine ⟨entGet_mem, fun hm => ?_⟩
  have hh : entHas l name = true := entHas_iff.2 ⟨_, hm, rfl⟩
  rw [← entGet_isSome] at hh
  obtain ⟨k', hk'⟩ := Option.isSome_iff_exists.1 hh
  have := rising_name h (entGet_mem hk') hm rfl
  rw [hk']
  cases this; rfl

theorem mem_entDel {l : List Ent} {name : ByteArray} {e : Ent} : e ∈ entDel l name ↔ e ∈ l ∧ e.1 ≠ name := by simp [entDel]

theorem mem_entSet {l : List Ent} {name : ByteArray} {n : Int} {e : Ent} : e ∈ entSet l name n ↔ (e ∈ l ∧ e.1 ≠ name) ∨ (e = (name, n) ∧ entHas l name = true) := by
  unfold entSet
  rw [List.mem_map, entHas_iff]
  constructor
  · rintro ⟨x, hx, rfl⟩
    split
    · next e => exact .inr ⟨by rw [e], x, hx, e⟩
    · next e => exact .inl ⟨hx, e⟩
  · rintro (⟨h1, h2⟩ | ⟨rfl, x, hx, e⟩)
    · exact ⟨e, h1, if_neg h2⟩
    · exact ⟨x, hx, by rw [if_pos e, e]⟩

theorem entHas_set {l : List Ent} {name : ByteArray} {n : Int} (x : ByteArray) : entHas (entSet l name n) x = entHas l x := by
  rw [Bool.eq_iff_iff, entHas_iff, entHas_iff]
  simp only [mem_entSet]
  constructor
  · rintro ⟨e, ⟨h1, h2⟩ | ⟨rfl, h2⟩, rfl⟩
    · exact ⟨e, h1, rfl⟩
    · exact entHas_iff.1 h2
  · rintro ⟨e, he, rfl⟩
    by_cases h : e.1 = name
    · exact ⟨(name, n), .inr ⟨rfl, entHas_iff.2 ⟨e, he, h⟩⟩, h.symm⟩
    · exact ⟨e, .inl ⟨he, h⟩, rfl⟩

theorem entGet_put_other {l : List Ent} (h : Rising l) {name x : ByteArray} {n : Int} (hno : entHas l name = false) (hx : x ≠ name) : entGet (entPut l name n) x = entGet l x := by
  cases hg : entGet l x with
  | none =>
    refine entGet_none ?_
    have := entGet_isSome l x
    rw [hg] at this
    rw [entHas_put hno, ← this]; simpa using hx
  | some k => exact (entGet_iff (h.put name n)).2 ((mem_entPut hno _).2 (.inl (entGet_mem hg)))

theorem entGet_set_other {l : List Ent} (h : Rising l) {name x : ByteArray} {n : Int} (hx : x ≠ name) : entGet (entSet l name n) x = entGet l x := by
  cases hg : entGet l x with
  | none =>
    refine entGet_none ?_
    have := entGet_isSome l x
    rw [hg] at this
    rw [entHas_set, ← this]; rfl
  | some k => exact (entGet_iff (h.set name n)).2 (mem_entSet.2 (.inl ⟨entGet_mem hg, hx⟩))

theorem put_del_comm {l : List Ent} (h : Rising l) {name x : ByteArray} {n : Int} (hno : entHas l name = false) (hx : x ≠ name) : entDel (entPut l name n) x = entPut (entDel l x) name n := by
  have hno2 : entHas (entDel l x) name = false := by rw [entHas_del, hno]; rfl
  refine rising_ext ((h.put name n).del x) ((h.del x).put name n) fun e => ?_
  rw [mem_entDel, mem_entPut hno, mem_entPut hno2, mem_entDel]
  constructor
  · rintro ⟨h1 | h1, h2⟩
    · exact .inl ⟨h1, h2⟩
    · exact .inr h1
  · rintro (⟨h1, h2⟩ | h1)
    · exact ⟨.inl h1, h2⟩
    · exact ⟨.inr h1, by subst h1; exact fun e => hx e.symm⟩

theorem set_del_comm {l : List Ent} (h : Rising l) {name x : ByteArray} {n : Int} (hx : x ≠ name) : entDel (entSet l name n) x = entSet (entDel l x) name n := by
  refine rising_ext ((h.set name n).del x) ((h.del x).set name n) fun e => ?_
  rw [mem_entDel, mem_entSet, mem_entSet, mem_entDel, entHas_del]
  have hd : (!decide (name = x)) = true := by simpa using fun e : name = x => hx e.symm
  rw [hd, Bool.and_true]
  constructor
  · rintro ⟨⟨h1, h2⟩ | ⟨h1, h2⟩, h3⟩
    · exact .inl ⟨⟨h1, h3⟩, h2⟩
    · exact .inr ⟨h1, h2⟩
  · rintro (⟨⟨h1, h3⟩, h2⟩ | ⟨h1, h2⟩)
    · exact ⟨.inl ⟨h1, h2⟩, h3⟩
    · exact ⟨.inr ⟨h1, h2⟩, by subst h1; exact fun e => hx e.symm⟩

end Go.Proofs.YtfomkkoecelakaaDoor

/-
  Layer 4, plain: a disk's nodes as the document has them, what names them, what lets go of them. No program in sight.
-/
set_option maxRecDepth 100000
namespace Go.Proofs.YtfomkkoecelakaaDoor

/-- A node: kind 0 is none. -/
structure Nd where
  kind : Int
  mode : Int
  holds : Int
  data : ByteArray
  ents : List Ent

def Nd.gone : Nd := ⟨0, 0, 0, ⟨#[]⟩, []⟩

def Nd.setMode (n : Nd) (m : Int) : Nd := ⟨n.kind, m, n.holds, n.data, n.ents⟩
def Nd.setHolds (n : Nd) (h : Int) : Nd := ⟨n.kind, n.mode, h, n.data, n.ents⟩
def Nd.setData (n : Nd) (s : ByteArray) : Nd := ⟨n.kind, n.mode, n.holds, s, n.ents⟩
def Nd.setEnts (n : Nd) (l : List Ent) : Nd := ⟨n.kind, n.mode, n.holds, n.data, l⟩

abbrev Nds := List Nd

def nd (d : Nds) (i : Int) : Nd := if 0 ≤ i then (d[i.toNat]?).getD Nd.gone else Nd.gone
def has (d : Nds) (i : Int) : Prop := (nd d i).kind ≠ 0
instance (d : Nds) (i : Int) : Decidable (has d i) := inferInstanceAs (Decidable (_ ≠ _))
def upd (d : Nds) (i : Int) (n : Nd) : Nds := if 0 ≤ i then d.set i.toNat n else d

def sumBy (f : Nd → Nat) (d : Nds) : Nat := (d.map f).sum
def namesOf (i : Int) (n : Nd) : Nat := n.ents.countP fun e => decide (e.2 = i)
def cnt (d : Nds) (i : Int) : Nat := sumBy (namesOf i) d
def links (d : Nds) (i : Int) : Nat := (if i = 1 then 1 else 0) + cnt d i
def room1 (n : Nd) : Nat := n.data.size + entSize n.ents
def used (d : Nds) : Nat := sumBy room1 d
def here1 (n : Nd) : Nat := if n.kind = 0 then 0 else 1
def count (d : Nds) : Nat := sumBy here1 d
def mass1 (n : Nd) : Nat := 1 + n.holds.toNat + n.ents.length
def mass (d : Nds) : Nat := sumBy mass1 d

theorem nd_gone {d : Nds} {i : Int} (h : ¬ (0 ≤ i ∧ i.toNat < d.length)) : nd d i = Nd.gone := by
  unfold nd
  split
  · rw [List.getElem?_eq_none (by omega)]; rfl
  · rfl

theorem has_range {d : Nds} {i : Int} (h : has d i) : 0 ≤ i ∧ i.toNat < d.length := by
  by_cases hh : 0 ≤ i ∧ i.toNat < d.length
  · exact hh
  · unfold has at h; rw [nd_gone hh] at h; exact absurd rfl h

theorem nd_get {d : Nds} {i : Int} (h0 : 0 ≤ i) (h : i.toNat < d.length) : d[i.toNat]? = some (nd d i) := by
  unfold nd
  rw [if_pos h0, List.getElem?_eq_getElem h]; rfl

theorem nd_nat {d : Nds} {i : Nat} {n : Nd} (h : d[i]? = some n) : nd d i = n := by
  simp [nd, h]

theorem upd_length (d : Nds) (i : Int) (n : Nd) : (upd d i n).length = d.length := by
  unfold upd; split <;> simp

theorem nd_upd {d : Nds} {i : Int} (h0 : 0 ≤ i) (h : i.toNat < d.length) (n : Nd) (j : Int) : nd (upd d i n) j = if j = i then n else nd d j := by
  unfold nd upd
  rw [if_pos h0]
  by_cases hj : 0 ≤ j
  · rw [if_pos hj, if_pos hj]
    by_cases e : j = i
    · subst e; simp [h]
    · have : i.toNat ≠ j.toNat := by omega
      simp [e, this]
  · rw [if_neg hj, if_neg hj, if_neg (by omega)]

theorem sumBy_set (f : Nd → Nat) (d : Nds) (i : Nat) (n o : Nd) (h : d[i]? = some o) : sumBy f (d.set i n) + f o = sumBy f d + f n := by
  induction d generalizing i with
  | nil => simp at h
  | cons a d ih =>
    cases i with
    | zero => simp at h; subst h; simp [sumBy]; omega
    | succ i =>
      simp at h
      have := ih i h
      simp [sumBy] at this ⊢
      omega

theorem sumBy_upd (f : Nd → Nat) {d : Nds} {i : Int} (h0 : 0 ≤ i) (h : i.toNat < d.length) (n : Nd) : sumBy f (upd d i n) + f (nd d i) = sumBy f d + f n := by
  unfold upd
  rw [if_pos h0]
  exact sumBy_set f d _ n _ (nd_get h0 h)

theorem sumBy_append (f : Nd → Nat) (d : Nds) (n : Nd) : sumBy f (d ++ [n]) = sumBy f d + f n := by
  simp [sumBy]

theorem sumBy_ge (f : Nd → Nat) {d : Nds} {i : Int} (h0 : 0 ≤ i) (h : i.toNat < d.length) : f (nd d i) ≤ sumBy f d := by
  have := sumBy_upd f h0 h Nd.gone
  have hg := sumBy_upd (fun n => f n) h0 h (nd d i)
  have h2 : ∀ (l : Nds) (k : Nat) (o : Nd), l[k]? = some o → f o ≤ sumBy f l := by
    intro l
    induction l with
    | nil => intro k o h; simp at h
    | cons a l ih =>
      intro k o h
      cases k with
      | zero => simp at h; subst h; simp [sumBy]
      | succ k =>
        simp at h
        have := ih k o h
        simp [sumBy] at this ⊢
        omega
  exact h2 d _ _ (nd_get h0 h)

/-- A sum is over nothing. -/
theorem sumBy_zero {f : Nd → Nat} {d : Nds} : sumBy f d = 0 ↔ ∀ n ∈ d, f n = 0 := by
  induction d with
  | nil => simp [sumBy]
  | cons a d ih =>
    simp only [sumBy, List.map_cons, List.sum_cons, List.mem_cons, forall_eq_or_imp] at ih ⊢
    rw [Nat.add_eq_zero_iff, ih]

theorem namesOf_pos {i : Int} {n : Nd} : 0 < namesOf i n ↔ ∃ e ∈ n.ents, e.2 = i := by
  simp [namesOf, List.countP_pos_iff]

theorem cnt_pos {d : Nds} {i : Int} : 0 < cnt d i ↔ ∃ j e, e ∈ (nd d j).ents ∧ e.2 = i := by
  rw [Nat.pos_iff_ne_zero, Ne, cnt, sumBy_zero]
  constructor
  · intro h
    simp only [Classical.not_forall] at h
    obtain ⟨n, hn, hz⟩ := h
    obtain ⟨e, he, hi⟩ := namesOf_pos.1 (Nat.pos_of_ne_zero hz)
    obtain ⟨j, hj⟩ := List.mem_iff_getElem?.1 hn
    exact ⟨j, e, by rw [nd_nat hj]; exact he, hi⟩
  · rintro ⟨j, e, he, hi⟩ h
    have hr : 0 ≤ j ∧ j.toNat < d.length := by
      by_cases hh : 0 ≤ j ∧ j.toNat < d.length
      · exact hh
      · rw [nd_gone hh] at he; cases he
    have := h (nd d j) (List.mem_of_getElem? (nd_get hr.1 hr.2))
    have h2 := namesOf_pos.2 ⟨e, he, hi⟩
    omega

/-- Nobody names it, or holds it. -/
def Garb (d : Nds) (i : Int) : Prop := has d i ∧ links d i = 0 ∧ (nd d i).holds = 0
def NoGarb (d : Nds) : Prop := ∀ i, ¬ Garb d i
def kill (d : Nds) (i : Int) : Nds := upd d i Nd.gone

inductive Kills : Nds → Nds → Prop
  | refl (d : Nds) : Kills d d
  | step {d d' : Nds} (i : Int) : Garb d i → Kills (kill d i) d' → Kills d d'

theorem Kills.trans {a b c : Nds} (h : Kills a b) (k : Kills b c) : Kills a c := by
  induction h with
  | refl => exact k
  | step i hi _ ih => exact .step i hi (ih k)

theorem Kills.one {d : Nds} {i : Int} (h : Garb d i) : Kills d (kill d i) := .step i h (.refl _)

theorem nd_kill {d : Nds} {i : Int} (h : has d i) (j : Int) : nd (kill d i) j = if j = i then Nd.gone else nd d j := nd_upd (has_range h).1 (has_range h).2 _ _

theorem kill_length (d : Nds) (i : Int) : (kill d i).length = d.length := upd_length _ _ _

theorem has_kill {d : Nds} {i j : Int} (h : has d i) : has (kill d i) j ↔ j ≠ i ∧ has d j := by
  unfold has
  rw [nd_kill h]
  by_cases e : j = i
  · simp [e, Nd.gone]
  · simp [e]

theorem cnt_kill {d : Nds} {i : Int} (h : has d i) (j : Int) : cnt (kill d i) j + namesOf j (nd d i) = cnt d j := by
  have := sumBy_upd (namesOf j) (has_range h).1 (has_range h).2 Nd.gone
  simpa [cnt, kill, namesOf, Nd.gone] using this

theorem links_kill {d : Nds} {i : Int} (h : has d i) (j : Int) : links (kill d i) j + namesOf j (nd d i) = links d j := by
  have := cnt_kill h j
  unfold links
  omega

theorem count_kill {d : Nds} {i : Int} (h : has d i) : count (kill d i) + 1 = count d := by
  have := sumBy_upd here1 (has_range h).1 (has_range h).2 Nd.gone
  have h1 : here1 (nd d i) = 1 := by unfold here1; rw [if_neg h]
  rw [h1] at this
  simpa [count, kill, here1, Nd.gone] using this

theorem used_kill {d : Nds} {i : Int} (h : has d i) : used (kill d i) + room1 (nd d i) = used d := by
  have := sumBy_upd room1 (has_range h).1 (has_range h).2 Nd.gone
  have h1 : room1 Nd.gone = 0 := rfl
  rw [h1] at this
  simpa [used, kill] using this

theorem mass_kill {d : Nds} {i : Int} (h : has d i) : mass (kill d i) ≤ mass d := by
  have := sumBy_upd mass1 (has_range h).1 (has_range h).2 Nd.gone
  have h1 : mass1 Nd.gone = 1 := rfl
  have h2 : 1 ≤ mass1 (nd d i) := by unfold mass1; omega
  unfold mass kill at *
  omega

/-- What is garbage stays garbage when another goes. -/
theorem Garb.other {d : Nds} {i j : Int} (hi : Garb d i) (hj : has d j) (hne : i ≠ j) : Garb (kill d j) i := by
  obtain ⟨h1, h2, h3⟩ := hi
  refine ⟨(has_kill hj).2 ⟨hne, h1⟩, ?_, ?_⟩
  · have := links_kill hj i; omega
  · rw [nd_kill hj, if_neg hne]; exact h3

theorem kill_comm {d : Nds} {i j : Int} (hi : has d i) (hj : has d j) (hne : i ≠ j) : kill (kill d i) j = kill (kill d j) i := by
  have := has_range hi
  have := has_range hj
  unfold kill upd
  rw [if_pos (by omega), if_pos (by omega), if_pos (by omega), if_pos (by omega)]
  exact List.set_comm _ _ (by omega)

theorem Kills.normal (d : Nds) : ∃ d', Kills d d' ∧ NoGarb d' := by
  generalize hn : count d = n
  induction n generalizing d with
  | zero =>
    refine ⟨d, .refl d, fun i hi => ?_⟩
    have := count_kill hi.1
    omega
  | succ n ih =>
    by_cases h : NoGarb d
    · exact ⟨d, .refl d, h⟩
    · simp only [NoGarb, Classical.not_forall, Classical.not_not] at h
      obtain ⟨i, hi⟩ := h
      have := count_kill hi.1
      obtain ⟨d', h1, h2⟩ := ih (kill d i) (by omega)
      exact ⟨d', .step i hi h1, h2⟩

/-- It makes no odds in which order the garbage goes. -/
theorem Kills.unique {d a b : Nds} (ha : Kills d a) (hb : Kills d b) (na : NoGarb a) (nb : NoGarb b) : a = b := by
  generalize hn : count d = n
  induction n using Nat.strongRecOn generalizing d a b with
  | ind n ih =>
    cases ha with
    | refl =>
      cases hb with
      | refl => rfl
      | step j hj _ => exact absurd hj (na j)
    | step i hi ha' =>
      cases hb with
      | refl => exact absurd hi (nb i)
      | step j hj hb' =>
        have ci := count_kill hi.1
        have cj := count_kill hj.1
        by_cases e : i = j
        · subst e; exact ih _ (by omega) ha' hb' na nb rfl
        · obtain ⟨c, hc, nc⟩ := Kills.normal (kill (kill d i) j)
          have h1 := ih _ (by omega) ha' (.step j (hj.other hi.1 (fun h => e h.symm)) hc) na nc rfl
          rw [kill_comm hi.1 hj.1 e] at hc
          have h2 := ih _ (by omega) hb' (.step i (hi.other hj.1 e) hc) nb nc rfl
          exact h1.trans h2.symm

/-- The disk without its garbage. -/
noncomputable def gc (d : Nds) : Nds := Classical.choose (Kills.normal d)
theorem gc_kills (d : Nds) : Kills d (gc d) := (Classical.choose_spec (Kills.normal d)).1
theorem gc_clean (d : Nds) : NoGarb (gc d) := (Classical.choose_spec (Kills.normal d)).2
theorem gc_eq {d d' : Nds} (h : Kills d d') (hn : NoGarb d') : gc d = d' := (gc_kills d).unique h (gc_clean d) hn
theorem gc_same {d : Nds} (h : NoGarb d) : gc d = d := gc_eq (.refl d) h

/-- What a node may be. -/
structure NdOk (n : Nd) : Prop where
  kind0 : 0 ≤ n.kind
  kind3 : n.kind ≤ 3
  gone : n.kind = 0 → n = Nd.gone
  mode0 : 0 ≤ n.mode
  mode1 : n.mode ≤ 4095
  holds : 0 ≤ n.holds
  data : n.data.size ≤ 4194304
  dirs : n.kind = 2 → n.data = ⟨#[]⟩
  flat : n.kind ≠ 2 → n.ents = []
  rising : Rising n.ents
  names : ∀ e ∈ n.ents, okName e.1 = true

theorem NdOk.none : NdOk Nd.gone := ⟨by decide, by decide, fun _ => rfl, by decide, by decide, by decide, by decide, (fun h => by cases h), fun _ => rfl, List.Pairwise.nil, (fun _ h => by cases h)⟩

/-- j has an entry for the directory i. -/
def Par (d : Nds) (j i : Int) : Prop := (nd d i).kind = 2 ∧ ∃ e ∈ (nd d j).ents, e.2 = i

/-- What holds of a disk. -/
structure DInv (d : Nds) : Prop where
  two : 2 ≤ d.length
  zero : nd d 0 = Nd.gone
  root : (nd d 1).kind = 2
  node : ∀ i, NdOk (nd d i)
  tgt : ∀ i e, e ∈ (nd d i).ents → has d e.2 ∧ e.2 ≠ 1
  single : ∀ i, (nd d i).kind = 2 → links d i ≤ 1
  acyc : ∀ i, Acc (Par d) i

theorem DInv.pos {d : Nds} (h : DInv d) {i : Int} (hi : has d i) : 1 ≤ i := by
  have := has_range hi
  by_cases e : i = 0
  · subst e; rw [has, h.zero] at hi; exact absurd rfl hi
  · omega

theorem DInv.not_garb_root {d : Nds} : ¬ Garb d 1 := fun h => by have := h.2.1; unfold links at this; simp at this

theorem DInv.kill {d : Nds} (h : DInv d) {i : Int} (hi : Garb d i) : DInv (kill d i) := by
  have hg := hi.1
  have hne : i ≠ 1 := fun e => by subst e; exact DInv.not_garb_root hi
  have hpos := h.pos hg
  refine ⟨by rw [kill_length]; exact h.two, ?_, ?_, fun j => ?_, fun j e he => ?_, fun j hj => ?_, fun j => ?_⟩
  · rw [nd_kill hg, if_neg (by omega)]; exact h.zero
  · rw [nd_kill hg, if_neg (fun e => hne e.symm)]; exact h.root
  · rw [nd_kill hg]; split
    · exact NdOk.none
    · exact h.node j
  · rw [nd_kill hg] at he
    split at he
    · cases he
    · obtain ⟨h1, h2⟩ := h.tgt j e he
      refine ⟨(has_kill hg).2 ⟨fun e1 => ?_, h1⟩, h2⟩
      have : 0 < cnt d i := cnt_pos.2 ⟨j, e, he, e1⟩
      have := hi.2.1
      unfold links at this
      omega
  · rw [nd_kill hg] at hj
    split at hj
    · cases hj
    · have := h.single j hj
      have := links_kill hg j
      omega
  · have := h.acyc j
    induction this with
    | intro j _ ih =>
      refine ⟨j, fun k hk => ih k ?_⟩
      obtain ⟨h1, e, he, h2⟩ := hk
      rw [nd_kill hg] at h1 he
      split at h1
      · cases h1
      · split at he
        · cases he
        · exact ⟨h1, e, he, h2⟩

theorem DInv.kills {d d' : Nds} (h : DInv d) (k : Kills d d') : DInv d' := by
  induction k with
  | refl => exact h
  | step i hi _ ih => exact ih (h.kill hi)

theorem DInv.gc {d : Nds} (h : DInv d) : DInv (gc d) := h.kills (gc_kills d)

theorem Kills.length {d d' : Nds} (k : Kills d d') : d'.length = d.length := by
  induction k with
  | refl => rfl
  | step i _ _ ih => rw [ih, kill_length]

theorem Kills.mass {d d' : Nds} (k : Kills d d') : mass d' ≤ mass d := by
  induction k with
  | refl => exact Nat.le_refl _
  | step i hi _ ih => exact Nat.le_trans ih (mass_kill hi.1)

theorem Kills.was {d d' : Nds} (k : Kills d d') {i : Int} (h : has d' i) : has d i ∧ nd d' i = nd d i := by
  induction k with
  | refl => exact ⟨h, rfl⟩
  | step j hj _ ih =>
    obtain ⟨h1, h2⟩ := ih h
    obtain ⟨h3, h4⟩ := (has_kill hj.1).1 h1
    exact ⟨h4, by rw [h2, nd_kill hj.1, if_neg h3]⟩

/-- What is named or held stays. -/
theorem Kills.stay {d d' : Nds} (k : Kills d d') {i : Int} (h : has d i) (hold : 0 < (nd d i).holds) : has d' i := by
  induction k with
  | refl => exact h
  | step j hj _ ih =>
    have hne : i ≠ j := fun e => by subst e; have := hj.2.2; omega
    refine ih ((has_kill hj.1).2 ⟨hne, h⟩) ?_
    rw [nd_kill hj.1, if_neg hne]; exact hold

theorem mass_ge (d : Nds) : d.length ≤ mass d := by
  induction d with
  | nil => simp
  | cons a d ih =>
    simp [mass, sumBy] at ih ⊢
    have : 1 ≤ mass1 a := by unfold mass1; omega
    omega

theorem used_le {d : Nds} (h : DInv d) : used d ≤ 4194304 * mass d := by
  have hn : ∀ n ∈ d, NdOk n := fun n hn => by
    obtain ⟨j, hj⟩ := List.mem_iff_getElem?.1 hn
    have := h.node j
    rwa [nd_nat hj] at this
  clear h
  induction d with
  | nil => simp [used, sumBy]
  | cons a d ih =>
    have ih := ih (fun n h => hn n (List.mem_cons_of_mem _ h))
    have ha := hn a List.mem_cons_self
    have h2 : entSize a.ents ≤ 255 * a.ents.length := by
      have : ∀ l : List Ent, (∀ e ∈ l, okName e.1 = true) → entSize l ≤ 255 * l.length := by
        intro l hl
        induction l with
        | nil => simp [entSize]
        | cons x l ih =>
          have h1 := ih (fun e h => hl e (List.mem_cons_of_mem _ h))
          have h2 := hl x List.mem_cons_self
          simp [okName] at h2
          simp [entSize] at h1 ⊢
          omega
      exact this _ ha.names
    have h3 := ha.data
    simp only [used, mass, sumBy, List.map_cons, List.sum_cons] at ih ⊢
    have h4 : room1 a ≤ 4194304 * mass1 a := by unfold room1 mass1; omega
    rw [Nat.mul_add]
    omega

end Go.Proofs.YtfomkkoecelakaaDoor
