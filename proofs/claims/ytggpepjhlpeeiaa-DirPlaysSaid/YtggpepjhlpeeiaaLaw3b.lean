/-
  The walks of the statements of layer 3, the second part.
-/
import Derived.Test.YtggpepjhlpeeiaaLaw3
namespace Go.Proofs.Ytggpepjhlpeeiaa
open Go.RowKit

set_option maxHeartbeats 1000000 in
theorem same_any (S1 S2 : Nat → Prop) (w : World) (p q : Option Addr) (c d : Nat) (es : List Ent) (h1 : SlAt encEnt S1 w p c es) (h2 : SlAt encEnt S2 w q d es) :
    Calls Try.prog 15 #[.slice p es.length c, .slice q es.length d] w fun e w' => e = .returned (.bool true) ∧ Keeps NoB w w' := by
  have hcap := h1.cap
  have hmax := h1.max
  unfold maxLen at hmax
  go_enter Try.func15, Try.ntmps15
  go_wp2
  go_loopw [5, 13] (fun _ i wr => ∃ k : Nat, k ≤ es.length ∧ i = .int .i64 k ∧ Keeps NoB w wr) (fun _ i _ => es.length - (intOf i).toNat)
  case atStart => exact ⟨0, Nat.zero_le _, rfl, Keeps.refl _ _⟩
  case round =>
    obtain ⟨k, hk, rfl, hkp⟩ := hrel
    have Hkp := Lib.hid hkp
    clear hkp
    by_cases hlt : k < es.length
    · obtain ⟨x, hx⟩ : ∃ x, es[k]? = some x := ⟨_, List.getElem?_eq_getElem hlt⟩
      obtain ⟨g, off, rfl, _, _, c0, c1⟩ := (h1.keepN Hkp.out).ent hx
      obtain ⟨g', off', rfl, _, _, d0, d1⟩ := (h2.keepN Hkp.out).ent hx
      clear hx
      have b1 : (0 : Int) ≤ k := by omega
      have b2 : (k : Int) < es.length := by omega
      go_wp2
      go_quiet (fail)
      go_wp2
      go_roundw
      case rel => exact ⟨k + 1, by omega, by go_num, Hkp.out.drewN _⟩
      case measure => simp [intOf]; omega
    · go_wp2
      go_ret
      exact ⟨rfl, Hkp.out⟩

/-- Names put one after another, each with node 7. -/
def putAll (l : List ByteArray) : List Ent := l.foldl (fun es s => putTo es s 7) []

theorem putAll_snoc (l : List ByteArray) (s : ByteArray) : putAll (l ++ [s]) = putTo (putAll l) s 7 := by simp [putAll]

theorem mem_entPut {es : List Ent} {name : ByteArray} {n : Int} (hno : entHas es name = false) (e : Ent) : e ∈ entPut es name n ↔ e ∈ es ∨ e = (name, n) := by
  simp only [entPut, List.mem_append, List.mem_filter, List.mem_singleton]
  constructor
  · rintro ((⟨h, _⟩ | h) | ⟨h, _⟩)
    · exact .inl h
    · exact .inr h
    · exact .inl h
  · rintro (h | h)
    · cases h1 : bLt e.1 name with
      | true => exact .inl (.inl ⟨h, rfl⟩)
      | false =>
        cases h2 : bLt name e.1 with
        | true => exact .inr ⟨h, rfl⟩
        | false =>
          have := bLt_total h1 h2
          have : entHas es name = true := List.any_eq_true.2 ⟨e, h, by simp [this]⟩
          rw [this] at hno; cases hno
    · exact .inl (.inr h)

theorem putAll_spec (l : List ByteArray) : Rising (putAll l) ∧ (putAll l).length ≤ l.length ∧ ∀ e, e ∈ putAll l ↔ e.2 = 7 ∧ okName e.1 = true ∧ e.1 ∈ l := by
  obtain ⟨n, hn⟩ : ∃ n, l.length = n := ⟨_, rfl⟩
  induction n generalizing l with
  | zero =>
    obtain rfl := List.eq_nil_of_length_eq_zero hn
    exact ⟨List.Pairwise.nil, Nat.le_refl _, fun e => by simp [putAll]⟩
  | succ n ih =>
    obtain ⟨l', s, rfl⟩ := (List.eq_nil_or_concat l).resolve_left (fun h => by rw [h] at hn; cases hn)
    rw [List.concat_eq_append] at hn ⊢
    revert hn
    generalize l' = l
    intro hn
    obtain ⟨h1, h2, h3⟩ := ih l (by simpa using hn)
    clear hn ih
    rw [putAll_snoc]
    refine ⟨putTo_rising h1 _ _, by have := putTo_len (putAll l) s 7; simp; omega, fun e => ?_⟩
    unfold putTo
    split
    · next h0 =>
      obtain ⟨hok, hno⟩ := putErr_zero.1 h0
      rw [mem_entPut hno, h3]
      simp only [List.mem_append, List.mem_singleton]
      constructor
      · rintro (⟨a, b, c⟩ | rfl)
        · exact ⟨a, b, .inl c⟩
        · exact ⟨rfl, hok, .inr rfl⟩
      · rintro ⟨a, b, c | c⟩
        · exact .inl ⟨a, b, c⟩
        · exact .inr (Prod.ext c a)
    · next h0 =>
      rw [h3]
      simp only [List.mem_append, List.mem_singleton]
      constructor
      · rintro ⟨a, b, c⟩; exact ⟨a, b, .inl c⟩
      · rintro ⟨a, b, c | c⟩
        · exact ⟨a, b, c⟩
        · have hok : okName s = true := by rw [← c]; exact b
          have hhas : entHas (putAll l) s = true := by
            cases h : entHas (putAll l) s with
            | true => rfl
            | false => exact absurd (putErr_zero.2 ⟨hok, h⟩) h0
          obtain ⟨x, hx, hxs⟩ := List.any_eq_true.1 hhas
          have hxs : x.1 = s := by simpa using hxs
          have := (h3 x).1 hx
          exact ⟨a, b, by rw [c, ← hxs]; exact this.2.2⟩

/-- A rising list is told by its members. -/
theorem rising_ext : ∀ {l m : List Ent}, Rising l → Rising m → (∀ e, e ∈ l ↔ e ∈ m) → l = m
  | [], [], _, _, _ => rfl
  | [], b :: m, _, _, h => by have := (h b).2 (by simp); cases this
  | a :: l, [], _, _, h => by have := (h a).1 (by simp); cases this
  | a :: l, b :: m, hl, hm, h => by
    have hl' := List.pairwise_cons.1 hl
    have hm' := List.pairwise_cons.1 hm
    have hab : a = b := by
      rcases List.mem_cons.1 ((h a).1 (by simp)) with e | e
      · exact e
      · rcases List.mem_cons.1 ((h b).2 (by simp)) with e2 | e2
        · exact e2.symm
        · have h1 := hm'.1 a e
          have h2 := hl'.1 b e2
          rw [bLt_asymm h1] at h2; cases h2
    subst hab
    congr 1
    refine rising_ext hl'.2 hm'.2 fun e => ?_
    constructor
    · intro he
      rcases List.mem_cons.1 ((h e).1 (List.mem_cons_of_mem _ he)) with e2 | e2
      · subst e2; have := hl'.1 e he; rw [bLt_irrefl] at this; cases this
      · exact e2
    · intro he
      rcases List.mem_cons.1 ((h e).2 (List.mem_cons_of_mem _ he)) with e2 | e2
      · subst e2; have := hm'.1 e he; rw [bLt_irrefl] at this; cases this
      · exact e2

/-- The first k names of the list turned by t. -/
def turned (l : List ByteArray) (t k : Nat) : List ByteArray := (List.range k).map fun i => l.getD ((i + t) % l.length) ByteArray.empty

theorem turned_succ (l : List ByteArray) (t k : Nat) (x : ByteArray) (h : l[(k + t) % l.length]? = some x) : turned l t (k + 1) = turned l t k ++ [x] := by
  unfold turned
  rw [List.range_succ, List.map_append, List.map_singleton, List.getD_eq_getElem?_getD, h]; rfl

theorem turned_mem (l : List ByteArray) (t : Nat) (h0 : 0 < l.length) (x : ByteArray) : x ∈ turned l t l.length ↔ x ∈ l := by
  unfold turned
  rw [List.mem_map]
  constructor
  · rintro ⟨i, _, rfl⟩
    rw [List.getD_eq_getElem?_getD, List.getElem?_eq_getElem (Nat.mod_lt _ h0)]
    exact List.getElem_mem _
  · intro hx
    obtain ⟨j, hj, rfl⟩ := List.getElem_of_mem hx
    have ht := Nat.mod_lt t h0
    refine ⟨(j + (l.length - t % l.length)) % l.length, List.mem_range.2 (Nat.mod_lt _ h0), ?_⟩
    have e : ((j + (l.length - t % l.length)) % l.length + t) % l.length = j := by
      rw [← Nat.add_mod_mod, Nat.mod_add_mod, show j + (l.length - t % l.length) + t % l.length = j + l.length by omega, Nat.add_mod_right, Nat.mod_eq_of_lt hj]
    rw [e, List.getD_eq_getElem?_getD, List.getElem?_eq_getElem hj]; rfl

theorem putAll_turned (l : List ByteArray) (t : Nat) (h0 : 0 < l.length) : putAll (turned l t l.length) = putAll l := by
  obtain ⟨a1, _, a3⟩ := putAll_spec l
  obtain ⟨b1, _, b3⟩ := putAll_spec (turned l t l.length)
  exact rising_ext b1 a1 fun e => by rw [a3, b3, turned_mem l t h0]

end Go.Proofs.Ytggpepjhlpeeiaa
