/-
  Contracts of package dir, the second part: reading a directory.
-/
import Derived.Test.YtbcejodnjeklpaaDirW
namespace Go.Proofs.Ytbcejodnjeklpaa
open Go.RowKit

/-- The directory at address a holds the entries es; its row lies in a block of G. -/
structure IsDir (G : Nat → Prop) (w : World) (a : Addr) (v : Value) (es : List Ent) : Prop where
  cell : w.cell? a = some v
  free : w.frozen? a = false
  spot : a.spot = none
  own : Own encEnt 107 G w v es
  rising : Rising es
  names : ∀ e ∈ es, okName e.1 = true
  apart : ¬ v.ownBlock = some a.block

set_option maxHeartbeats 400000 in
theorem find_any (G : Nat → Prop) (w : World) (a : Addr) (v : Value) (es : List Ent) (name : ByteArray) (h : IsDir G w a v es) (hn : es.length < 4294967296) :
    Calls Try.prog 76 #[.pointer (some a), .string name] w fun e w' =>
      e = .returned (.tuple #[.int .i64 (lb es name), .bool (entHas es name)]) ∧ Keeps NoB w w' := by
  obtain ⟨p, c, rfl, hs⟩ := h.own.sl
  have hc := h.cell
  have hr := h.rising
  go_enter Try.func76, Try.ntmps76
  go_wp2_with (go_at_call 83; refine (bs_any _ _ _ _ _ _ hs hr hn).mono ?_; rintro e w' ⟨rfl, hk1⟩)
  go_ret2
  exact ⟨rfl, hk1⟩

set_option maxHeartbeats 400000 in
theorem len_any (G : Nat → Prop) (w : World) (a : Addr) (v : Value) (es : List Ent) (h : IsDir G w a v es) :
    Calls Try.prog 51 #[.pointer (some a)] w fun e w' => e = .returned (.int .i64 es.length) ∧ w = w' := by
  obtain ⟨p, c, rfl, hs⟩ := h.own.sl
  have hc := h.cell
  go_enter Try.func51, Try.ntmps51
  go_wp2
  go_ret
  exact ⟨rfl, rfl⟩

set_option maxHeartbeats 400000 in
theorem get_any (G : Nat → Prop) (w : World) (a : Addr) (v : Value) (es : List Ent) (name : ByteArray) (h : IsDir G w a v es) (hn : es.length < 4294967296) :
    Calls Try.prog 57 #[.pointer (some a), .string name] w fun e w' =>
      e = .returned (.tuple #[.int .i64 ((entGet es name).getD 0), .bool (entGet es name).isSome]) ∧ Keeps NoB w w' := by
  have hfind := find_any G w a v es name h hn
  obtain ⟨p, c, rfl, hs⟩ := h.own.sl
  have hlt := lt_of_cell h.cell
  have hhas := lb_has h.rising name
  have hget := get_at h.rising name
  by_cases hh : entHas es name = true
  · rw [hh] at hhas
    cases hl : es[lb es name]? with
    | none => rw [hl] at hhas; cases hhas
    | some x =>
      rw [hl] at hhas hget
      have hx : x.1 = name := by simpa using hhas.symm
      simp only [hx, if_true] at hget
      have Hget := Lib.hid hget
      have Hl := Lib.hid hl
      have hll := (List.getElem?_eq_some_iff.1 hl).1
      rw [hh] at hfind
      have Hfind := Lib.hid hfind
      clear hhas hget hl hh hfind
      go_enter Try.func57, Try.ntmps57
      go_wp2_with (fail)
      refine Hfind.out.mono ?_
      rintro e w' ⟨rfl, hk1⟩
      obtain ⟨g, off, rfl, hS, hg, c0, c1⟩ := (hs.keepN hk1).ent Hl.out
      have hc := (hk1.cell hlt (fun h => h)).trans h.cell
      go_wp2_with fail
      go_ret2
      refine ⟨?_, hk1⟩
      rw [Hget.out]; rfl
  · have hh' : entHas es name = false := by simpa using hh
    have hget0 : entGet es name = none := by
      rw [hh'] at hhas
      cases hl : es[lb es name]? with
      | none => rw [hl] at hget; exact hget
      | some x =>
        rw [hl] at hget hhas
        have : ¬ x.1 = name := by simpa using hhas.symm
        simpa [this] using hget
    have Hget := Lib.hid hget0
    rw [hh'] at hfind
    have Hfind := Lib.hid hfind
    clear hhas hget hget0 hh hh' hfind
    go_enter Try.func57, Try.ntmps57
    go_wp2_with (fail)
    refine Hfind.out.mono ?_
    rintro e w' ⟨rfl, hk1⟩
    go_wp2_with fail
    go_ret2
    refine ⟨?_, hk1⟩
    rw [Hget.out]; rfl

theorem entSize_take (es : List Ent) (k : Nat) (x : Ent) (h : es[k]? = some x) : entSize (es.take (k + 1)) = entSize (es.take k) + x.1.size := by
  unfold entSize
  rw [List.take_add_one, h]
  simp

theorem entSize_le (es : List Ent) (h : ∀ e ∈ es, okName e.1 = true) : entSize es ≤ 255 * es.length := by
  induction es with
  | nil => simp [entSize]
  | cons a l ih =>
    have ha : a.1.size ≤ 255 := by have := h a (by simp); simp [okName] at this; omega
    have := ih (fun e he => h e (by simp [he]))
    simp only [entSize, List.map_cons, List.sum_cons, List.length_cons] at *
    omega

set_option maxHeartbeats 400000 in
theorem size_any (G : Nat → Prop) (w : World) (a : Addr) (v : Value) (es : List Ent) (h : IsDir G w a v es) (hn : es.length < 4294967296) :
    Calls Try.prog 74 #[.pointer (some a)] w fun e w' => e = .returned (.int .i64 (entSize es)) ∧ Keeps NoB w w' := by
  have hnm := h.names
  obtain ⟨p, c, rfl, hs⟩ := h.own.sl
  have hc := h.cell
  have Hnm := Lib.hid hnm
  clear hnm
  go_enter Try.func74, Try.ntmps74
  go_wp2
  go_loopw [3, 5, 11] (fun s u i wr => ∃ k : Nat, k ≤ es.length ∧ i = .int .i64 k ∧ s = .int .i64 (entSize (es.take k)) ∧ Keeps NoB w wr) (fun _ _ i _ => es.length - (intOf i).toNat)
  case atStart => exact ⟨0, Nat.zero_le _, rfl, by simp [entSize], Keeps.refl _ _⟩
  case round =>
    obtain ⟨k, hk, rfl, rfl, hkp⟩ := hrel
    have Hkp := Lib.hid hkp
    clear hkp
    by_cases hlt : k < es.length
    · obtain ⟨x, hx⟩ : ∃ x, es[k]? = some x := ⟨_, List.getElem?_eq_getElem hlt⟩
      obtain ⟨g, off, rfl, hS, hg, c0, c1⟩ := (hs.keepN Hkp.out).ent hx
      have hx1 : x.1.size ≤ 255 := by have := Hnm.out x (List.mem_of_getElem? hx); simp [okName] at this; omega
      have hle := entSize_le (es.take k) (fun e he => Hnm.out e (List.mem_of_mem_take he))
      rw [List.length_take] at hle
      have HS := Lib.hid (entSize_take es k x hx)
      clear hx
      go_wp2
      go_roundw
      case rel => exact ⟨k + 1, by omega, by go_num, by rw [HS.out]; go_num, (Hkp.out.alloc _)⟩
      case measure => simp [intOf]; omega
    · go_wp2
      go_ret
      exact ⟨ret_i64 (by rw [List.take_of_length_le (by omega)]), Hkp.out⟩

set_option maxHeartbeats 400000 in
theorem clone_any (S : Nat → Prop) (w : World) (p : Option Addr) (c : Nat) (es : List Ent) (h : SlAt encEnt S w p c es) (hn : es.length < 4294967296) :
    Calls Try.prog 82 #[.slice p es.length c] w fun e w' =>
      ∃ v', e = .returned v' ∧ Own encEnt 107 (fun g => w.heap.size ≤ g) w' v' es ∧ Keeps NoB w w' := by
  cases p with
  | none =>
    have hc0 := h.nilc rfl
    have hcap := h.cap
    have h0 : es.length = 0 := by omega
    subst hc0
    obtain rfl : es = [] := List.eq_nil_of_length_eq_zero h0
    have heq : ∀ (w : World), (binOp .eql 73 (.slice none 0 0) (.slice none 0 0)).run Try.prog w = .ok (.bool true) w := fun w => Lib.run_eql_slice_nil w _ _ none 0 0 0 0 Try.underlying73
    go_enter Try.func82, Try.ntmps82
    go_wp2
    go_ret
    exact ⟨_, rfl, Own.nil _ _ _ _, Keeps.refl _ _⟩
  | some ad =>
    have heq : ∀ (w : World), (binOp .eql 73 (.slice (some ad) es.length c) (.slice none 0 0)).run Try.prog w = .ok (.bool false) w := fun w => Lib.run_eql_slice_nil w _ _ (some ad) es.length c 0 0 Try.underlying73
    have hmx : es.length ≤ maxLen := by have := h.cap; have := h.max; omega
    go_enter Try.func82, Try.ntmps82
    go_wp2_with (at_builtin; refine wpl_append rfl _ _ rfl tEnt (own_lit (S := fun g => w.heap.size ≤ g) [] #[] rfl 0 rfl (Nat.le_refl _) (Nat.zero_le _)) ⟨_, _, rfl, h.keepN ((Keeps.refl _ _).alloc _)⟩ rfl rfl (by simp) (by simpa using hmx) (by simp; omega) ?_; intro v' w' ho hk hf)
    go_ret
    exact ⟨v', rfl, ho.mono (fun g _ h => h), ((Keeps.refl _ _).alloc _).step hk (fun g hg => by simp [Value.ownBlock] at hg; omega)⟩

set_option maxHeartbeats 400000 in
theorem list_any (G : Nat → Prop) (w : World) (a : Addr) (v : Value) (es : List Ent) (h : IsDir G w a v es) (hn : es.length < 4294967296) :
    Calls Try.prog 75 #[.pointer (some a)] w fun e w' =>
      ∃ v', e = .returned v' ∧ Own encEnt 107 (fun g => w.heap.size ≤ g) w' v' es ∧ Keeps NoB w w' := by
  obtain ⟨p, c, rfl, hs⟩ := h.own.sl
  have hc := h.cell
  go_enter Try.func75, Try.ntmps75
  go_wp2_with (go_at_call 82; refine (clone_any _ _ _ _ _ hs hn).mono ?_; rintro e w' ⟨v', rfl, ho, hk⟩)
  go_ret
  exact ⟨v', rfl, ho, hk⟩

theorem bPre_lt {s p : ByteArray} (h : bPre s p = true) : bLt s p = false := by
  simp only [bPre, bLt] at *
  rw [List.isPrefixOf_iff_prefix] at h
  obtain ⟨t, ht⟩ := h
  rw [← ht]
  simp only [decide_eq_false_iff_not]
  rw [List.not_lt]
  exact List.le_append_left

/-- Between a text and one that begins with it stand only such as begin with it. -/
theorem bPre_between {s p x : ByteArray} (hx : bPre x p = true) (h1 : bLt s p = false) (h2 : bLt s x = true) : bPre s p = true := by
  simp only [bPre, bLt, decide_eq_false_iff_not, List.not_lt, decide_eq_true_eq, List.isPrefixOf_iff_prefix] at *
  generalize s.data.toList = a at *
  generalize p.data.toList = b at *
  generalize x.data.toList = c at *
  clear s p x
  obtain ⟨t, rfl⟩ := hx
  induction b generalizing a with
  | nil => exact List.nil_prefix
  | cons b bs ih =>
    cases a with
    | nil => simp at h1
    | cons a la =>
      rw [List.cons_append, List.cons_lt_cons_iff] at h2
      rw [← List.not_lt, List.cons_lt_cons_iff] at h1
      have hab : a = b := by
        rcases h2 with h2 | ⟨h2, _⟩
        · exact absurd (Or.inl h2) h1
        · exact h2
      subst hab
      have h1' : bs ≤ la := by rw [← List.not_lt]; exact fun h => h1 (Or.inr ⟨rfl, h⟩)
      have h2' : la < bs ++ t := by
        rcases h2 with h2 | ⟨_, h2⟩
        · exact absurd h2 (UInt8.lt_irrefl _)
        · exact h2
      exact List.cons_prefix_cons.2 ⟨rfl, ih la h1' h2'⟩

theorem from_split {l : List Ent} (h : Rising l) (head : ByteArray) (k : Nat) (hk : lb l head ≤ k) (hkl : k ≤ l.length) (hyes : ∀ j x, lb l head ≤ j → j < k → l[j]? = some x → bPre x.1 head = true)
    (hno : ∀ x, l[k]? = some x → bPre x.1 head = false) : (l.take k).drop (lb l head) = entFrom l head := by
  have h1 : (l.take (lb l head)).filter (fun e => bPre e.1 head) = [] := List.filter_eq_nil_iff.2 fun x hx hc => by
    obtain ⟨j, hj⟩ := List.mem_iff_getElem?.1 hx
    rw [List.getElem?_take] at hj
    split at hj
    · next hlt => have := bPre_lt hc; rw [lb_before hlt hj] at this; cases this
    · cases hj
  have h3 : (l.drop k).filter (fun e => bPre e.1 head) = [] := List.filter_eq_nil_iff.2 fun x hx hc => by
    obtain ⟨j, hj⟩ := List.mem_iff_getElem?.1 hx
    rw [List.getElem?_drop] at hj
    have hkl' := (List.getElem?_eq_some_iff.1 hj).1
    obtain ⟨y, hy⟩ : ∃ y, l[k]? = some y := ⟨_, List.getElem?_eq_getElem (by omega)⟩
    have hyn := hno y hy
    by_cases hj0 : j = 0
    · subst hj0; rw [Nat.add_zero, hy] at hj; cases hj; rw [hc] at hyn; cases hyn
    · have := bPre_between hc (lb_after h hk hy) (h.get hy hj (by omega))
      rw [this] at hyn; cases hyn
  have h2 : ((l.take k).drop (lb l head)).filter (fun e => bPre e.1 head) = (l.take k).drop (lb l head) := List.filter_eq_self.2 fun x hx => by
    obtain ⟨j, hj⟩ := List.mem_iff_getElem?.1 hx
    rw [List.getElem?_drop, List.getElem?_take] at hj
    split at hj
    · next hlt => exact hyes _ x (by omega) hlt hj
    · cases hj
  unfold entFrom
  have hsplit : l = l.take (lb l head) ++ ((l.take k).drop (lb l head) ++ l.drop k) := by
    have e1 : l.take (lb l head) = (l.take k).take (lb l head) := by rw [List.take_take, Nat.min_eq_left hk]
    rw [e1, ← List.append_assoc, List.take_append_drop, List.take_append_drop]
  conv => rhs; rw [hsplit]
  rw [List.filter_append, List.filter_append, h1, h2, h3]
  simp

end Go.Proofs.Ytbcejodnjeklpaa
