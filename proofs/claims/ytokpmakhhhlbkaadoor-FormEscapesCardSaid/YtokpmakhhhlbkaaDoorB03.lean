/-
  The plain laws of a directory's entries: lists ordered by name. No program in sight.
-/
import Derived.Lib.Bytealg
import Derived.Lib.MinMaxS

set_option linter.unusedSimpArgs false
set_option linter.unusedVariables false

set_option maxRecDepth 100000
namespace Go.Proofs.YtokpmakhhhlbkaaDoor

/-- An entry: a name, and which node it names. -/
abbrev Ent := ByteArray × Int

/-- The order of names, byte by byte. -/
def bLt (a b : ByteArray) : Bool := decide (a.data.toList < b.data.toList)

theorem bLt_irrefl (a : ByteArray) : bLt a a = false := by simp [bLt, List.lt_irrefl]
theorem bLt_trans {a b c : ByteArray} (h : bLt a b = true) (k : bLt b c = true) : bLt a c = true := by
  simp only [bLt, decide_eq_true_eq] at *; exact List.lt_trans h k
theorem bLt_asymm {a b : ByteArray} (h : bLt a b = true) : bLt b a = false := by
  cases hb : bLt b a with
  | false => rfl
  | true => have := bLt_trans h hb; rw [bLt_irrefl] at this; cases this
theorem eq_of_data {a b : ByteArray} (h : a.data.toList = b.data.toList) : a = b := by
  cases a; cases b; congr; exact Array.toList_inj.1 h
theorem bLt_total {a b : ByteArray} (h : bLt a b = false) (k : bLt b a = false) : a = b := by
  simp only [bLt, decide_eq_false_iff_not, List.not_lt] at h k
  exact eq_of_data (List.le_antisymm k h)

theorem cmp_lists (a b : List UInt8) : (Lib.compareBytes a b < 0 ↔ a < b) ∧ (Lib.compareBytes a b = 0 ↔ a = b) := by
  induction a generalizing b with
  | nil =>
    cases b with
    | nil => simp [Lib.compareBytes]
    | cons b bs => simp [Lib.compareBytes]
  | cons a la ih =>
    cases b with
    | nil => simp [Lib.compareBytes]
    | cons b bs =>
      have ih := ih bs
      unfold Lib.compareBytes
      by_cases h1 : a < b
      · have hne : a ≠ b := by intro e; subst e; exact absurd h1 (UInt8.lt_irrefl _)
        simp [h1, List.cons_lt_cons_iff, hne]
      · by_cases h2 : b < a
        · have hne : a ≠ b := by intro e; subst e; exact absurd h2 (UInt8.lt_irrefl _)
          simp [h1, h2, List.cons_lt_cons_iff, hne]
        · have he : a = b := UInt8.le_antisymm (UInt8.not_lt.1 h2) (UInt8.not_lt.1 h1)
          subst he
          simp [List.cons_lt_cons_iff, ih.1, ih.2]

theorem cmp_neg0 (a b : ByteArray) : decide (Lib.compareBytes a.data.toList b.data.toList < 0) = bLt a b := by
  simp only [bLt, (cmp_lists a.data.toList b.data.toList).1]
theorem cmp_zero0 (a b : ByteArray) : Lib.compareBytes a.data.toList b.data.toList = 0 ↔ a = b :=
  (cmp_lists a.data.toList b.data.toList).2.trans ⟨eq_of_data, fun h => by rw [h]⟩
theorem less_eq (a b : ByteArray) : Op.bytesLess a.toList b.toList = bLt a b := by
  simp only [bLt, Lib.toList_data]
  rw [Proofs.bytesLess_eq]
theorem toList_eq (a b : ByteArray) : (a.toList == b.toList) = decide (a = b) := by
  rw [Bool.eq_iff_iff]; simp only [beq_iff_eq, decide_eq_true_eq, Lib.toList_data]
  exact ⟨eq_of_data, fun h => by rw [h]⟩

/-- Entries rise by name. -/
def Rising (l : List Ent) : Prop := l.Pairwise (fun a b => bLt a.1 b.1 = true)

/-- How many entries stand ahead of a name. -/
def lb (l : List Ent) (name : ByteArray) : Nat := (l.takeWhile fun e => bLt e.1 name).length

/-- The node of a name. -/
def entGet (l : List Ent) (name : ByteArray) : Option Int := (l.find? fun e => decide (e.1 = name)).map (·.2)
def entHas (l : List Ent) (name : ByteArray) : Bool := l.any fun e => decide (e.1 = name)
def entDel (l : List Ent) (name : ByteArray) : List Ent := l.filter fun e => !decide (e.1 = name)
def entSet (l : List Ent) (name : ByteArray) (n : Int) : List Ent := l.map fun e => if e.1 = name then (e.1, n) else e
def entPut (l : List Ent) (name : ByteArray) (n : Int) : List Ent := l.filter (fun e => bLt e.1 name) ++ [(name, n)] ++ l.filter (fun e => bLt name e.1)
/-- Does s begin with p? -/
def bPre (s p : ByteArray) : Bool := p.data.toList.isPrefixOf s.data.toList
/-- strings.Compare -/
def bCmp (a b : ByteArray) : Int := Lib.compareBytes a.data.toList b.data.toList
/-- strings.IndexByte -/
def bIdx (s : ByteArray) (c : UInt8) : Int := Lib.indexByte s.data.toList c
def entFrom (l : List Ent) (head : ByteArray) : List Ent := l.filter fun e => bPre e.1 head
def entSize (l : List Ent) : Nat := (l.map fun e => e.1.size).sum

def hasB (s : ByteArray) (c : UInt8) : Bool := s.data.toList.contains c
def okName (s : ByteArray) : Bool :=
  decide (1 ≤ s.size) && decide (s.size ≤ 255) && s.data.toList != [46] && s.data.toList != [46, 46] && !hasB s 47 && !hasB s 0

/-- The number of the error of Put: 0 is none. -/
def putErr (l : List Ent) (name : ByteArray) : Int :=
  if 255 < name.size then 18 else if okName name = false then 11 else if entHas l name then 13 else 0

/-- The entries behind Put, Set, Drop. -/
def putTo (l : List Ent) (name : ByteArray) (n : Int) : List Ent := if putErr l name = 0 then entPut l name n else l
def hasErr (l : List Ent) (name : ByteArray) : Int := if entHas l name then 0 else 12

/-- The place of a name, -1: none. -/
def entIdx (l : List Ent) (name : ByteArray) : Int := if entHas l name then lb l name else -1

theorem indexByte_neg (l : List UInt8) (c : UInt8) : decide (Lib.indexByte l c < 0) = !l.contains c := by
  have hg := Lib.indexByte_ge
  induction l with
  | nil => rfl
  | cons b l ih =>
    unfold Lib.indexByte
    by_cases hb : (b == c) = true
    · have : b = c := by simpa using hb
      subst this
      simp
    · have hne : ¬ c = b := fun e => hb (by simp [e])
      have ih' : (Lib.indexByte l c < 0) ↔ ¬ c ∈ l := by
        have := ih; rw [Bool.eq_iff_iff] at this; simpa using this
      have h1 := hg l c
      simp only [hb, Bool.false_eq_true, if_false]
      rw [Bool.eq_iff_iff]
      by_cases h2 : Lib.indexByte l c = -1
      · have : ¬ c ∈ l := ih'.1 (by omega)
        simp [h2, hne, this]
      · have : c ∈ l := Decidable.byContradiction fun h => by have := ih'.2 h; omega
        simp [h2, hne, this]; omega

theorem bCmp_neg (a b : ByteArray) : bCmp a b < 0 ↔ bLt a b = true := by
  have := cmp_neg0 a b; rw [Bool.eq_iff_iff] at this; simpa [bCmp] using this
theorem bCmp_zero (a b : ByteArray) : bCmp a b = 0 ↔ a = b := cmp_zero0 a b
theorem bIdx_neg (s : ByteArray) (c : UInt8) : bIdx s c < 0 ↔ hasB s c = false := by
  have := indexByte_neg s.data.toList c; rw [Bool.eq_iff_iff] at this; simpa [bIdx, hasB] using this
theorem hasB_iff (s : ByteArray) (c : UInt8) : hasB s c = true ↔ ∃ (j : Nat) (h : j < s.size), s[j] = c := by
  obtain ⟨⟨l⟩⟩ := s
  simp only [hasB, List.contains_iff_mem]
  constructor
  · intro h
    obtain ⟨j, hj, e⟩ := List.getElem_of_mem h
    exact ⟨j, hj, e⟩
  · rintro ⟨j, hj, rfl⟩
    exact List.getElem_mem (l := l) hj
theorem byte_eq (x : UInt8) (c : Int) (h0 : 0 ≤ c) (h1 : c < 256) : ((x.toNat : Int) == c) = decide (x = c.toNat.toUInt8) := by
  have := x.toNat_lt
  rw [Bool.eq_iff_iff, beq_iff_eq, decide_eq_true_eq]
  constructor
  · intro h
    apply UInt8.toNat_inj.1
    have e : c.toNat.toUInt8.toNat = c.toNat % 256 := by simp
    rw [e, ← h, Int.toNat_natCast]
    omega
  · intro h
    rw [h]
    have e : c.toNat.toUInt8.toNat = c.toNat % 256 := by simp
    rw [e]; omega
theorem toList_nil (s : ByteArray) : s.toList = [] ↔ s.size = 0 := by
  rw [Lib.toList_data, Lib.size_eq, List.length_eq_zero_iff]

/-- A right name, in the spelling of package path. -/
theorem okName_eq (s : ByteArray) : okName s = (!s.toList.isEmpty && decide ((s.size : Int) ≤ 255) && !(s.toList == [46]) && !(s.toList == [46, 46]) && decide (bIdx s 47 < 0) && decide (bIdx s 0 < 0)) := by
  have h0 := toList_nil s
  have h1 : (s.toList.isEmpty = true) ↔ s.size = 0 := by rw [List.isEmpty_iff]; exact h0
  rw [Bool.eq_iff_iff]
  simp only [okName, Bool.and_eq_true, decide_eq_true_eq, bIdx_neg, Bool.not_eq_true', beq_eq_false_iff_ne, bne_iff_ne, Lib.toList_data] at *
  have h2 : (s.data.toList.isEmpty = false) ↔ ¬ s.size = 0 := by rw [← h1]; simp
  rw [h2]
  constructor
  · rintro ⟨⟨⟨⟨⟨a, b⟩, c⟩, d⟩, e⟩, f⟩; exact ⟨⟨⟨⟨⟨by omega, by omega⟩, c⟩, d⟩, e⟩, f⟩
  · rintro ⟨⟨⟨⟨⟨a, b⟩, c⟩, d⟩, e⟩, f⟩; exact ⟨⟨⟨⟨⟨by omega, by omega⟩, c⟩, d⟩, e⟩, f⟩

theorem okName_eq2 (s : ByteArray) : okName s = (decide (1 ≤ (s.size : Int)) && decide ((s.size : Int) ≤ 255) && !hasB s 47 && !hasB s 0 && !(s.toList == [46]) && !(s.toList == [46, 46])) := by
  rw [Bool.eq_iff_iff]
  simp only [okName, Bool.and_eq_true, decide_eq_true_eq, Bool.not_eq_true', beq_eq_false_iff_ne, bne_iff_ne, Lib.toList_data]
  constructor
  · rintro ⟨⟨⟨⟨⟨a, b⟩, c⟩, d⟩, e⟩, f⟩; exact ⟨⟨⟨⟨⟨by omega, by omega⟩, e⟩, f⟩, c⟩, d⟩
  · rintro ⟨⟨⟨⟨⟨a, b⟩, c⟩, d⟩, e⟩, f⟩; exact ⟨⟨⟨⟨⟨by omega, by omega⟩, e⟩, f⟩, c⟩, d⟩

/-! ### what a rising list gives -/

theorem Rising.get {l : List Ent} (h : Rising l) {i j : Nat} {x y : Ent} (hi : l[i]? = some x) (hj : l[j]? = some y) (hij : i < j) : bLt x.1 y.1 = true := by
  obtain ⟨hi1, hi2⟩ := List.getElem?_eq_some_iff.1 hi
  obtain ⟨hj1, hj2⟩ := List.getElem?_eq_some_iff.1 hj
  have := List.pairwise_iff_getElem.1 h i j hi1 hj1 hij
  rw [hi2, hj2] at this; exact this

/-- lb is the place from which on no entry is less. -/
theorem lb_unique {l : List Ent} {name : ByteArray} (i : Nat) (hi : i ≤ l.length) (h1 : ∀ j x, j < i → l[j]? = some x → bLt x.1 name = true) (h2 : ∀ x, l[i]? = some x → bLt x.1 name = false) : lb l name = i := by
  unfold lb
  induction l generalizing i with
  | nil => simp at hi; subst hi; rfl
  | cons a l ih =>
    cases i with
    | zero =>
      have := h2 a rfl
      simp [List.takeWhile_cons, this]
    | succ i =>
      have ha := h1 0 a (by omega) rfl
      rw [List.takeWhile_cons, ha]
      simp only [if_true, List.length_cons]
      congr 1
      exact ih i (by simpa using hi) (fun j x hj hx => h1 (j + 1) x (by omega) (by simpa using hx)) (fun x hx => h2 x (by simpa using hx))

theorem lb_le (l : List Ent) (name : ByteArray) : lb l name ≤ l.length := (List.takeWhile_prefix _).length_le

theorem lb_before {l : List Ent} {name : ByteArray} {j : Nat} {x : Ent} (hj : j < lb l name) (hx : l[j]? = some x) : bLt x.1 name = true := by
  unfold lb at hj
  induction l generalizing j with
  | nil => simp at hj
  | cons a l ih =>
    by_cases ha : bLt a.1 name = true
    · rw [List.takeWhile_cons, if_pos ha] at hj
      cases j with
      | zero => simp at hx; subst hx; exact ha
      | succ j => exact ih (by simpa using hj) (by simpa using hx)
    · rw [List.takeWhile_cons, if_neg ha] at hj; simp at hj

theorem lb_at {l : List Ent} {name : ByteArray} {x : Ent} (hx : l[lb l name]? = some x) : bLt x.1 name = false := by
  unfold lb at hx
  induction l with
  | nil => simp at hx
  | cons a l ih =>
    by_cases ha : bLt a.1 name = true
    · rw [List.takeWhile_cons, if_pos ha] at hx; exact ih (by simpa using hx)
    · rw [List.takeWhile_cons, if_neg ha] at hx; simp at hx; subst hx; simpa using ha

/-- At and behind lb no entry is less. -/
theorem lb_after {l : List Ent} (h : Rising l) {name : ByteArray} {j : Nat} {x : Ent} (hj : lb l name ≤ j) (hx : l[j]? = some x) : bLt x.1 name = false := by
  have hjl := (List.getElem?_eq_some_iff.1 hx).1
  obtain ⟨y, hy⟩ : ∃ y, l[lb l name]? = some y := ⟨_, List.getElem?_eq_getElem (by omega)⟩
  have h1 := lb_at hy
  by_cases he : j = lb l name
  · subst he; exact lb_at hx
  · have h2 := h.get hy hx (by omega)
    cases hc : bLt x.1 name with
    | false => rfl
    | true => rw [bLt_trans h2 hc] at h1; cases h1

/-- The name is there just where it stands at lb. -/
theorem lb_has {l : List Ent} (h : Rising l) (name : ByteArray) : entHas l name = match l[lb l name]? with | some x => decide (x.1 = name) | none => false := by
  rw [Bool.eq_iff_iff]
  simp only [entHas, List.any_eq_true, decide_eq_true_eq]
  constructor
  · rintro ⟨x, hx, rfl⟩
    obtain ⟨j, hj⟩ := List.mem_iff_getElem?.1 hx
    have hle : lb l x.1 ≤ j := Nat.le_of_not_lt fun hlt => by have := lb_before hlt hj; rw [bLt_irrefl] at this; cases this
    have hjl := (List.getElem?_eq_some_iff.1 hj).1
    obtain ⟨y, hy⟩ : ∃ y, l[lb l x.1]? = some y := ⟨_, List.getElem?_eq_getElem (by omega)⟩
    rw [hy]
    simp only [decide_eq_true_eq]
    by_cases he : lb l x.1 = j
    · rw [he] at hy; rw [hj] at hy; cases hy; rfl
    · have h1 := h.get hy hj (by omega)
      have h2 := lb_at hy
      rw [h1] at h2; cases h2
  · intro hm
    cases hl : l[lb l name]? with
    | none => rw [hl] at hm; cases hm
    | some x => rw [hl] at hm; exact ⟨x, List.mem_of_getElem? hl, by simpa using hm⟩

/-- The list parts at lb. -/
theorem lb_split {l : List Ent} (h : Rising l) (name : ByteArray) : l.take (lb l name) = l.filter (fun e => bLt e.1 name) ∧ l.drop (lb l name) = l.filter (fun e => !bLt e.1 name) := by
  unfold lb
  induction l with
  | nil => simp
  | cons a l ih =>
    have ih := ih (List.Pairwise.of_cons h)
    have hall := (List.pairwise_cons.1 h).1
    by_cases ha : bLt a.1 name = true
    · simp only [List.takeWhile_cons, ha, if_true, List.length_cons, List.take_succ_cons, List.drop_succ_cons, List.filter_cons, Bool.not_true, Bool.false_eq_true, if_false]
      exact ⟨by rw [ih.1], ih.2⟩
    · have hno : ∀ x ∈ l, bLt x.1 name = false := fun x hx => by
        cases hc : bLt x.1 name with
        | false => rfl
        | true => exact absurd (bLt_trans (hall x hx) hc) ha
      have e1 : l.filter (fun e => bLt e.1 name) = [] := List.filter_eq_nil_iff.2 fun x hx => by rw [hno x hx]; simp
      have e2 : l.filter (fun e => !bLt e.1 name) = l := List.filter_eq_self.2 fun x hx => by rw [hno x hx]; rfl
      simp [List.takeWhile_cons, ha, List.filter_cons, e1, e2]

theorem ne_of_lt {a b : ByteArray} (h : bLt a b = true) : a ≠ b := fun e => by subst e; rw [bLt_irrefl] at h; cases h

/-- Insertion at lb. -/
theorem put_at {l : List Ent} (h : Rising l) (name : ByteArray) (n : Int) (hno : entHas l name = false) : l.take (lb l name) ++ (name, n) :: l.drop (lb l name) = entPut l name n := by
  obtain ⟨h1, h2⟩ := lb_split h name
  rw [h1, h2]
  unfold entPut
  rw [List.append_assoc]
  congr 1
  rw [List.singleton_append]; congr 1
  refine List.filter_congr fun x hx => ?_
  have hne : x.1 ≠ name := fun e => by
    have : entHas l name = true := List.any_eq_true.2 ⟨x, hx, by simp [e]⟩
    rw [this] at hno; cases hno
  cases hc : bLt x.1 name with
  | true => rw [bLt_asymm hc]; rfl
  | false =>
    cases hd : bLt name x.1 with
    | true => rfl
    | false => exact absurd (bLt_total hc hd) hne

theorem Rising.filter {l : List Ent} (h : Rising l) (p : Ent → Bool) : Rising (l.filter p) := List.Pairwise.filter _ h

theorem Rising.put {l : List Ent} (h : Rising l) (name : ByteArray) (n : Int) : Rising (entPut l name n) := by
  unfold entPut Rising
  rw [List.append_assoc, List.pairwise_append]
  refine ⟨h.filter _, ?_, ?_⟩
  · simp only [List.singleton_append, List.pairwise_cons]
    exact ⟨fun x hx => (by simpa using (List.mem_filter.1 hx).2), h.filter _⟩
  · intro x hx y hy
    have hx := (List.mem_filter.1 hx).2
    simp only [List.singleton_append, List.mem_cons] at hy
    rcases hy with rfl | hy
    · exact hx
    · exact bLt_trans hx (by simpa using (List.mem_filter.1 hy).2)

theorem Rising.del {l : List Ent} (h : Rising l) (name : ByteArray) : Rising (entDel l name) := h.filter _

theorem Rising.set {l : List Ent} (h : Rising l) (name : ByteArray) (n : Int) : Rising (entSet l name n) := by
  unfold entSet Rising
  rw [List.pairwise_map]
  refine h.imp fun {a b} hab => ?_
  split <;> split <;> exact hab

/-- Taking away at lb. -/
theorem del_at {l : List Ent} (h : Rising l) (name : ByteArray) (hyes : entHas l name = true) : l.take (lb l name) ++ l.drop (lb l name + 1) = entDel l name := by
  rw [lb_has h] at hyes
  cases hl : l[lb l name]? with
  | none => rw [hl] at hyes; cases hyes
  | some x =>
    rw [hl] at hyes
    have hx : x.1 = name := by simpa using hyes
    have hlt := (List.getElem?_eq_some_iff.1 hl).1
    have hsplit : l = l.take (lb l name) ++ x :: l.drop (lb l name + 1) := by
      conv => lhs; rw [← List.take_append_drop (lb l name) l, List.drop_eq_getElem_cons hlt]
      rw [(List.getElem?_eq_some_iff.1 hl).2]
    have hp := h
    unfold Rising at hp
    rw [hsplit, List.pairwise_append, List.pairwise_cons] at hp
    obtain ⟨_, ⟨ha, _⟩, hb⟩ := hp
    conv => rhs; rw [hsplit]
    unfold entDel
    rw [List.filter_append, List.filter_cons_of_neg (by simp [hx])]
    rw [List.filter_eq_self.2 (fun y hy => by have := ne_of_lt (hb y hy x (by simp)); rw [hx] at this; simpa using this)]
    rw [List.filter_eq_self.2 (fun y hy => by have := ne_of_lt (ha y hy); rw [hx] at this; simpa using (Ne.symm this))]

theorem set_at {l : List Ent} (h : Rising l) (name : ByteArray) (n : Int) {x : Ent} (hl : l[lb l name]? = some x) (hx : x.1 = name) : l.set (lb l name) (x.1, n) = entSet l name n := by
  apply List.ext_getElem?
  intro j
  unfold entSet
  rw [List.getElem?_map, List.getElem?_set]
  have hlt := (List.getElem?_eq_some_iff.1 hl).1
  by_cases hj : lb l name = j
  · subst hj
    rw [if_pos rfl, if_pos hlt, hl]; simp [hx]
  · rw [if_neg hj]
    cases hy : l[j]? with
    | none => rfl
    | some y =>
      have hne : y.1 ≠ name := by
        rcases Nat.lt_or_gt_of_ne hj with hlt' | hlt'
        · have := ne_of_lt (h.get hl hy hlt'); rw [hx] at this; exact this.symm
        · have := ne_of_lt (h.get hy hl hlt'); rw [hx] at this; exact this
      simp [hne]

theorem get_at {l : List Ent} (h : Rising l) (name : ByteArray) : entGet l name = match l[lb l name]? with | some x => if x.1 = name then some x.2 else none | none => none := by
  cases hh : entHas l name with
  | false =>
    have hn : l.find? (fun e => decide (e.1 = name)) = none := by
      rw [List.find?_eq_none]; intro x hx hc
      have : entHas l name = true := List.any_eq_true.2 ⟨x, hx, hc⟩
      rw [this] at hh; cases hh
    rw [lb_has h] at hh
    unfold entGet; rw [hn]
    cases hl : l[lb l name]? with
    | none => rfl
    | some x => rw [hl] at hh; simp at hh; simp [hh]
  | true =>
    rw [lb_has h] at hh
    cases hl : l[lb l name]? with
    | none => rw [hl] at hh; cases hh
    | some x =>
      rw [hl] at hh
      have hx : x.1 = name := by simpa using hh
      simp only [hx, if_true]
      unfold entGet
      have : l.find? (fun e => decide (e.1 = name)) = some x := by
        rw [List.find?_eq_some_iff_getElem]
        have hlt := (List.getElem?_eq_some_iff.1 hl)
        refine ⟨by simp [hx], lb l name, hlt.1, hlt.2, fun j hj => ?_⟩
        have hltl := hlt.1
        have := ne_of_lt (lb_before hj (List.getElem?_eq_getElem (by omega)))
        simpa using this
      rw [this]; rfl


theorem entIdx_nonneg {l : List Ent} {name : ByteArray} : decide (0 ≤ entIdx l name) = entHas l name := by
  unfold entIdx; cases entHas l name <;> simp
theorem entIdx_neg {l : List Ent} {name : ByteArray} : decide (entIdx l name < 0) = !entHas l name := by
  unfold entIdx; cases entHas l name <;> simp

/-- The first place of a name, in a rising list. -/
theorem lb_of_first {l : List Ent} (h : Rising l) {name : ByteArray} {k : Nat} {x : Ent} (hx : l[k]? = some x) (he : x.1 = name) : lb l name = k ∧ entHas l name = true := by
  have hh : entHas l name = true := List.any_eq_true.2 ⟨x, List.mem_of_getElem? hx, by simp [he]⟩
  refine ⟨lb_unique k (by have := (List.getElem?_eq_some_iff.1 hx).1; omega) (fun j y hj hy => ?_) (fun y hy => ?_), hh⟩
  · have := h.get hy hx hj; rw [he] at this; exact this
  · rw [hx] at hy; cases hy; rw [he]; exact bLt_irrefl _

theorem entHas_false {l : List Ent} {name : ByteArray} (h : ∀ (k : Nat) (x : Ent), l[k]? = some x → ¬ x.1 = name) : entHas l name = false := by
  rw [← Bool.not_eq_true, entHas, List.any_eq_true]
  rintro ⟨x, hx, he⟩
  obtain ⟨k, hk⟩ := List.mem_iff_getElem?.1 hx
  exact h k x hk (by simpa using he)

theorem filter_take_snoc {α : Type} (l : List α) (p : α → Bool) (k : Nat) (x : α) (h : l[k]? = some x) : (l.take (k + 1)).filter p = (l.take k).filter p ++ (if p x then [x] else []) := by
  rw [List.take_add_one, h]
  simp only [Option.toList_some, List.filter_append]
  cases hp : p x <;> simp [hp]

theorem string_eq (a b : ByteArray) : (a.toList == b.toList) = decide (a = b) := toList_eq a b

end Go.Proofs.YtokpmakhhhlbkaaDoor
