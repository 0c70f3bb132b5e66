/-
  More plain laws of a directory's entries: what Put, Set and Drop do to them as a heap of pairs. No program in sight.
-/
import Derived.Test.YtbcejodnjeklpaaDirM
namespace Go.Proofs.Ytbcejodnjeklpaa

theorem mem_entPut {es : List Ent} {name : ByteArray} {n : Int} (hno : entHas es name = false) (e : Ent) : e ∈ entPut es name n ↔ e ∈ es ∨ e = (name, n) := by
  have hne : ∀ x ∈ es, x.1 ≠ name := fun x hx e => by
    have : entHas es name = true := List.any_eq_true.2 ⟨x, hx, by simp [e]⟩
    rw [hno] at this; cases this
  unfold entPut
  simp only [List.mem_append, List.mem_filter, List.mem_singleton]
  constructor
  · rintro ((⟨h, _⟩ | h) | ⟨h, _⟩)
    · exact .inl h
    · exact .inr h
    · exact .inl h
  · rintro (h | h)
    · cases h1 : bLt e.1 name with
      | true => exact .inl (.inl ⟨h, rfl⟩)
      | false =>
        cases h2 : bLt name e.1 with
        | true => exact .inr ⟨h, rfl⟩
        | false => exact absurd (bLt_total h1 h2) (hne e h)
    · exact .inl (.inr h)

theorem entHas_iff {es : List Ent} {name : ByteArray} : entHas es name = true ↔ ∃ e ∈ es, e.1 = name := by simp [entHas]

theorem entGet_isSome (es : List Ent) (name : ByteArray) : (entGet es name).isSome = entHas es name := by
  rw [Bool.eq_iff_iff, entHas_iff]
  simp [entGet]

theorem entGet_none {es : List Ent} {name : ByteArray} (h : entHas es name = false) : entGet es name = none := by
  have := entGet_isSome es name
  rw [h] at this
  simpa using this

theorem entGet_has {es : List Ent} {name : ByteArray} {k : Int} (h : entGet es name = some k) : entHas es name = true := by
  rw [← entGet_isSome, h]; rfl

theorem entGet_mem {es : List Ent} {name : ByteArray} {k : Int} (h : entGet es name = some k) : (name, k) ∈ es := by
  unfold entGet at h
  rw [Option.map_eq_some_iff] at h
  obtain ⟨e, he, rfl⟩ := h
  have h1 := List.find?_some he
  have h2 := List.mem_of_find?_eq_some he
  have : e.1 = name := by simpa using h1
  subst this
  exact h2

theorem entPut_perm {es : List Ent} {name : ByteArray} {n : Int} (hno : entHas es name = false) : (entPut es name n).Perm ((name, n) :: es) := by
  have hne : ∀ x ∈ es, x.1 ≠ name := fun x hx e => by
    have : entHas es name = true := List.any_eq_true.2 ⟨x, hx, by simp [e]⟩
    rw [hno] at this; cases this
  have hgt : es.filter (fun e => bLt name e.1) = es.filter (fun e => !bLt e.1 name) := by
    refine List.filter_congr fun x hx => ?_
    cases h1 : bLt x.1 name with
    | true => rw [bLt_asymm h1]; rfl
    | false =>
      cases h2 : bLt name x.1 with
      | true => rfl
      | false => exact absurd (bLt_total h1 h2) (hne x hx)
  unfold entPut
  rw [hgt, List.append_assoc]
  refine List.perm_middle.trans (List.Perm.cons _ ?_)
  exact List.filter_append_perm _ _

theorem ent_split {es : List Ent} (h : Rising es) {name : ByteArray} {k : Int} (hk : entGet es name = some k) :
    es[lb es name]? = some (name, k) ∧ es = es.take (lb es name) ++ (name, k) :: es.drop (lb es name + 1) := by
  rw [get_at h] at hk
  cases hl : es[lb es name]? with
  | none => rw [hl] at hk; cases hk
  | some x =>
    rw [hl] at hk
    simp only at hk
    split at hk
    · next e =>
      cases hk
      have hx : x = (name, x.2) := by rw [← e]
      refine ⟨by rw [← hx], ?_⟩
      obtain ⟨h1, h2⟩ := List.getElem?_eq_some_iff.1 hl
      rw [← hx, ← h2, List.getElem_cons_drop, List.take_append_drop]
    · cases hk

theorem entDel_perm {es : List Ent} (h : Rising es) {name : ByteArray} {k : Int} (hk : entGet es name = some k) : es.Perm ((name, k) :: entDel es name) := by
  have h2 := (ent_split h hk).2
  have hd := del_at h name (entGet_has hk)
  conv => lhs; rw [h2]
  refine List.perm_middle.trans (List.Perm.cons _ ?_)
  rw [hd]

theorem entSet_perm {es : List Ent} (h : Rising es) {name : ByteArray} {k : Int} (n : Int) (hk : entGet es name = some k) : (entSet es name n).Perm ((name, n) :: entDel es name) := by
  obtain ⟨h1, h2⟩ := ent_split h hk
  have hs := set_at h name n h1 rfl
  have hd := del_at h name (entGet_has hk)
  obtain ⟨hl, _⟩ := List.getElem?_eq_some_iff.1 h1
  rw [← hs, List.set_eq_take_append_cons_drop, if_pos hl]
  refine List.perm_middle.trans (List.Perm.cons _ ?_)
  rw [hd]

theorem entSize_perm {l m : List Ent} (h : l.Perm m) : entSize l = entSize m := by
  unfold entSize
  exact (h.map _).sum_nat


theorem entHas_put {es : List Ent} {name : ByteArray} {n : Int} (hno : entHas es name = false) (x : ByteArray) : entHas (entPut es name n) x = (entHas es x || decide (x = name)) := by
  rw [Bool.eq_iff_iff, entHas_iff, Bool.or_eq_true, entHas_iff]
  simp only [mem_entPut hno, decide_eq_true_eq]
  constructor
  · rintro ⟨e, h | h, rfl⟩
    · exact .inl ⟨e, h, rfl⟩
    · subst h; exact .inr rfl
  · rintro (⟨e, h, rfl⟩ | h)
    · exact ⟨e, .inl h, rfl⟩
    · exact ⟨_, .inr rfl, h.symm⟩

theorem entHas_del {es : List Ent} {name x : ByteArray} : entHas (entDel es name) x = (entHas es x && !decide (x = name)) := by
  rw [Bool.eq_iff_iff, entHas_iff, Bool.and_eq_true, entHas_iff]
  simp only [entDel, List.mem_filter, Bool.not_eq_true', decide_eq_false_iff_not]
  constructor
  · rintro ⟨e, ⟨h1, h2⟩, rfl⟩; exact ⟨⟨e, h1, rfl⟩, h2⟩
  · rintro ⟨⟨e, h1, rfl⟩, h2⟩; exact ⟨e, ⟨h1, h2⟩, rfl⟩

/-- Rows that rise and hold the same pairs are the same. -/
theorem rising_ext : ∀ {l m : List Ent}, Rising l → Rising m → (∀ e, e ∈ l ↔ e ∈ m) → l = m
  | [], [], _, _, _ => rfl
  | [], b :: m, _, _, h => by have := (h b).2 (by simp); cases this
  | a :: l, [], _, _, h => by have := (h a).1 (by simp); cases this
  | a :: l, b :: m, hl, hm, h => by
    have hl' := List.pairwise_cons.1 hl
    have hm' := List.pairwise_cons.1 hm
    have hab : a = b := by
      rcases List.mem_cons.1 ((h a).1 (by simp)) with e | e
      · exact e
      · rcases List.mem_cons.1 ((h b).2 (by simp)) with e2 | e2
        · exact e2.symm
        · have h1 := hm'.1 a e
          have h2 := hl'.1 b e2
          rw [bLt_asymm h1] at h2; cases h2
    subst hab
    congr 1
    refine rising_ext hl'.2 hm'.2 fun e => ?_
    constructor
    · intro he
      rcases List.mem_cons.1 ((h e).1 (List.mem_cons_of_mem _ he)) with e2 | e2
      · subst e2; have := hl'.1 e he; rw [bLt_irrefl] at this; cases this
      · exact e2
    · intro he
      rcases List.mem_cons.1 ((h e).2 (List.mem_cons_of_mem _ he)) with e2 | e2
      · subst e2; have := hm'.1 e he; rw [bLt_irrefl] at this; cases this
      · exact e2

theorem entDel_put {es : List Ent} (h : Rising es) {name : ByteArray} {n : Int} (hno : entHas es name = false) : entDel (entPut es name n) name = es := by
  refine rising_ext ((h.put name n).del name) h fun e => ?_
  unfold entDel
  rw [List.mem_filter, mem_entPut hno]
  constructor
  · rintro ⟨h1 | h1, h2⟩
    · exact h1
    · subst h1; simp at h2
  · intro he
    refine ⟨.inl he, ?_⟩
    cases hd : decide (e.1 = name) with
    | false => rfl
    | true =>
      have : entHas es name = true := List.any_eq_true.2 ⟨e, he, hd⟩
      rw [this] at hno; cases hno

theorem entGet_put {es : List Ent} (h : Rising es) {name : ByteArray} {n : Int} (hno : entHas es name = false) : entGet (entPut es name n) name = some n := by
  have hp := h.put name n
  have hm : (name, n) ∈ entPut es name n := (mem_entPut hno _).2 (.inr rfl)
  obtain ⟨k, hk⟩ := List.mem_iff_getElem?.1 hm
  obtain ⟨h1, _⟩ := lb_of_first hp hk rfl
  rw [get_at hp, h1, hk]
  simp

theorem rising_name {l : List Ent} (h : Rising l) {x y : Ent} (hx : x ∈ l) (hy : y ∈ l) (e : x.1 = y.1) : x = y := by
  obtain ⟨i, hi⟩ := List.mem_iff_getElem?.1 hx
  obtain ⟨j, hj⟩ := List.mem_iff_getElem?.1 hy
  rcases Nat.lt_trichotomy i j with h1 | h1 | h1
  · have := h.get hi hj h1; rw [e, bLt_irrefl] at this; cases this
  · subst h1; rw [hi] at hj; cases hj; rfl
  · have := h.get hj hi h1; rw [e, bLt_irrefl] at this; cases this

theorem entGet_iff {l : List Ent} (h : Rising l) {name : ByteArray} {k : Int} : entGet l name = some k ↔ (name, k) ∈ l := by
  refine ⟨entGet_mem, fun hm => ?_⟩
  have hh : entHas l name = true := entHas_iff.2 ⟨_, hm, rfl⟩
  rw [← entGet_isSome] at hh
  obtain ⟨k', hk'⟩ := Option.isSome_iff_exists.1 hh
  have := rising_name h (entGet_mem hk') hm rfl
  rw [hk']
  cases this; rfl

theorem mem_entDel {l : List Ent} {name : ByteArray} {e : Ent} : e ∈ entDel l name ↔ e ∈ l ∧ e.1 ≠ name := by simp [entDel]

theorem mem_entSet {l : List Ent} {name : ByteArray} {n : Int} {e : Ent} : e ∈ entSet l name n ↔ (e ∈ l ∧ e.1 ≠ name) ∨ (e = (name, n) ∧ entHas l name = true) := by
  unfold entSet
  rw [List.mem_map, entHas_iff]
  constructor
  · rintro ⟨x, hx, rfl⟩
    split
    · next e => exact .inr ⟨by rw [e], x, hx, e⟩
    · next e => exact .inl ⟨hx, e⟩
  · rintro (⟨h1, h2⟩ | ⟨rfl, x, hx, e⟩)
    · exact ⟨e, h1, if_neg h2⟩
    · exact ⟨x, hx, by rw [if_pos e, e]⟩

theorem entHas_set {l : List Ent} {name : ByteArray} {n : Int} (x : ByteArray) : entHas (entSet l name n) x = entHas l x := by
  rw [Bool.eq_iff_iff, entHas_iff, entHas_iff]
  simp only [mem_entSet]
  constructor
  · rintro ⟨e, ⟨h1, h2⟩ | ⟨rfl, h2⟩, rfl⟩
    · exact ⟨e, h1, rfl⟩
    · exact entHas_iff.1 h2
  · rintro ⟨e, he, rfl⟩
    by_cases h : e.1 = name
    · exact ⟨(name, n), .inr ⟨rfl, entHas_iff.2 ⟨e, he, h⟩⟩, h.symm⟩
    · exact ⟨e, .inl ⟨he, h⟩, rfl⟩

theorem entGet_put_other {l : List Ent} (h : Rising l) {name x : ByteArray} {n : Int} (hno : entHas l name = false) (hx : x ≠ name) : entGet (entPut l name n) x = entGet l x := by
  cases hg : entGet l x with
  | none =>
    refine entGet_none ?_
    have := entGet_isSome l x
    rw [hg] at this
    rw [entHas_put hno, ← this]; simpa using hx
  | some k => exact (entGet_iff (h.put name n)).2 ((mem_entPut hno _).2 (.inl (entGet_mem hg)))

theorem entGet_set_other {l : List Ent} (h : Rising l) {name x : ByteArray} {n : Int} (hx : x ≠ name) : entGet (entSet l name n) x = entGet l x := by
  cases hg : entGet l x with
  | none =>
    refine entGet_none ?_
    have := entGet_isSome l x
    rw [hg] at this
    rw [entHas_set, ← this]; rfl
  | some k => exact (entGet_iff (h.set name n)).2 (mem_entSet.2 (.inl ⟨entGet_mem hg, hx⟩))

theorem put_del_comm {l : List Ent} (h : Rising l) {name x : ByteArray} {n : Int} (hno : entHas l name = false) (hx : x ≠ name) : entDel (entPut l name n) x = entPut (entDel l x) name n := by
  have hno2 : entHas (entDel l x) name = false := by rw [entHas_del, hno]; rfl
  refine rising_ext ((h.put name n).del x) ((h.del x).put name n) fun e => ?_
  rw [mem_entDel, mem_entPut hno, mem_entPut hno2, mem_entDel]
  constructor
  · rintro ⟨h1 | h1, h2⟩
    · exact .inl ⟨h1, h2⟩
    · exact .inr h1
  · rintro (⟨h1, h2⟩ | h1)
    · exact ⟨.inl h1, h2⟩
    · exact ⟨.inr h1, by subst h1; exact fun e => hx e.symm⟩

theorem set_del_comm {l : List Ent} (h : Rising l) {name x : ByteArray} {n : Int} (hx : x ≠ name) : entDel (entSet l name n) x = entSet (entDel l x) name n := by
  refine rising_ext ((h.set name n).del x) ((h.del x).set name n) fun e => ?_
  rw [mem_entDel, mem_entSet, mem_entSet, mem_entDel, entHas_del]
  have hd : (!decide (name = x)) = true := by simpa using fun e : name = x => hx e.symm
  rw [hd, Bool.and_true]
  constructor
  · rintro ⟨⟨h1, h2⟩ | ⟨h1, h2⟩, h3⟩
    · exact .inl ⟨⟨h1, h3⟩, h2⟩
    · exact .inr ⟨h1, h2⟩
  · rintro (⟨⟨h1, h3⟩, h2⟩ | ⟨h1, h2⟩)
    · exact ⟨.inl ⟨h1, h2⟩, h3⟩
    · exact ⟨.inr ⟨h1, h2⟩, by subst h1; exact fun e => hx e.symm⟩

end Go.Proofs.Ytbcejodnjeklpaa
