/-
  From an argument's reading to the slices of the walks.
-/
import Derived.Test.YtbcejodnjeklpaaBase
import Derived.ProofKit
import Derived.OpenShut
import Derived.ShutString
import Derived.ChangeOld
import Derived.Deep.Slices
import Derived.Deep.Fields
namespace Go.Proofs.Ytbcejodnjeklpaa
open Go.RowKit Go.ChangeShapes Go.WideShapes Go.ChangeAt

theorem list_of {α : Type} {Q : Nat → α → Prop} : ∀ n, (∀ i, i < n → ∃ x, Q i x) → ∃ l : List α, l.length = n ∧ ∀ i x, l[i]? = some x → Q i x
  | 0, _ => ⟨[], rfl, fun i x h => by simp at h⟩
  | n + 1, h => by
    obtain ⟨l, hl, hq⟩ := list_of n (fun i hi => h i (by omega))
    obtain ⟨x, hx⟩ := h n (by omega)
    refine ⟨l ++ [x], by simp [hl], fun i y hy => ?_⟩
    by_cases hi : i < n
    · rw [List.getElem?_append_left (by omega)] at hy; exact hq i y hy
    · rw [List.getElem?_append_right (by omega)] at hy
      have hi0 : i - l.length = 0 := by
        have := (List.getElem?_eq_some_iff.1 hy).1
        simp at this; omega
      rw [hi0] at hy
      have : i = n := by omega
      subst this
      simp at hy; subst hy; exact hx

section
variable {H : Type} {enc : TypeId × Value → H} {P : Program} {W : World}

/-- A slice whose elements read, cell by cell, as E's. -/
theorem open_sl {α : Type} (E : Enc α) {good : α → Prop} {t e : TypeId} {p : Option Addr} {len cap : Nat} {d : DataW H} {ps : List MemPlace} (ht : P.underlying t = some (.slice e)) (hC : P.cellsOf e = E.k)
    (h : DataW.Trod enc P W 0 (fun _ => true) true t (.slice p len cap) d ps)
    (hdec : ∀ (n : Nat) (cs : List Value) (y : DataW H × List MemPlace), cs.length = E.k → DataW.trod enc P W 0 (fun _ => true) true n e cs = some y → ∃ x, E.enc x = cs ∧ good x) :
    ∃ l : List α, len = l.length ∧ SlAt E (fun g => g < W.heap.size) W p cap l ∧ ∀ x ∈ l, good x := by
  obtain ⟨fuel, hf⟩ := h
  rcases Go.Deep.open_slice ht hf with ⟨hcs, _⟩ | ⟨a, len1, cap1, m, n, D, Pl, hcs, _, hl, hm, hmm, _, hi⟩
  · simp [Value.cells] at hcs
    obtain ⟨e1, e2, e3⟩ := hcs
    subst e1 e2 e3
    exact ⟨[], rfl, ⟨Nat.le_refl _, Nat.zero_le _, fun _ => rfl, (fun h => by omega), (fun h => by simp at h)⟩, by simp⟩
  · simp [Value.cells] at hcs
    obtain ⟨e1, e2, e3⟩ := hcs
    subst e1 e2 e3
    simp only [if_true] at hmm
    have hmm1 := hmm.symm
    subst hmm1
    clear hmm
    obtain ⟨l, hll, hq⟩ := list_of (Q := fun i x => (∀ j, j < E.k → W.cell? (a.add (i * E.k + j)) = (E.enc x)[j]?) ∧ good x) cap (fun i him => by
      obtain ⟨cs', hc, ht'⟩ := hi i him
      rw [hC] at hc
      obtain ⟨_, hcl, hat⟩ := World.cells?_some hc
      obtain ⟨x, hx, hg⟩ := hdec n cs' _ hcl ht'
      refine ⟨x, fun j hj => ?_, hg⟩
      rw [hx, ← hat j hj, Go.Deep.add_add])
    have hspot : 0 < cap → a.spot = none := fun h0 => by
      obtain ⟨x, hx⟩ : ∃ x, l[0]? = some x := ⟨_, List.getElem?_eq_getElem (by omega)⟩
      have h1 := (hq 0 x hx).1 0 E.pos
      obtain ⟨u, hu⟩ : ∃ u, (E.enc x)[0]? = some u := ⟨_, List.getElem?_eq_getElem (by rw [E.len]; exact E.pos)⟩
      rw [hu] at h1
      simpa [Addr.add] using World.cell?_spot h1
    refine ⟨l.take len, by simp; omega, ⟨by simp; omega, hm, (fun h => by cases h), (fun h0 a' ha => by cases ha; exact hspot h0), fun h0 => ?_⟩, fun x hx => ?_⟩
    · simp at h0
      have hs := hspot (by omega)
      obtain ⟨b, off, sp⟩ := a
      subst hs
      refine ⟨b, off, rfl, ?_, ?_, fun j hj => ?_⟩
      rotate_left 2
      · have hk := E.pos
        rw [List.length_take, Nat.min_eq_left (by omega)] at hj
        have hd : j = j / E.k * E.k + j % E.k := by rw [Nat.mul_comm]; exact (Nat.div_add_mod j E.k).symm
        have hm' := Nat.mod_lt j hk
        have hq' : j / E.k < len := Nat.div_lt_of_lt_mul (by rw [Nat.mul_comm]; exact hj)
        obtain ⟨x, hx⟩ : ∃ x, l[j / E.k]? = some x := ⟨_, List.getElem?_eq_getElem (by omega)⟩
        have h1 := (hq _ x hx).1 _ hm'
        rw [add_lit] at h1
        rw [hd, h1, E.flat_get _ _ _ hm', List.getElem?_take, if_pos hq', hx]; rfl
      all_goals
        obtain ⟨x, hx⟩ : ∃ x, l[0]? = some x := ⟨_, List.getElem?_eq_getElem (by omega)⟩
        have h1 := (hq 0 x hx).1 0 E.pos
        obtain ⟨u, hu⟩ : ∃ u, (E.enc x)[0]? = some u := ⟨_, List.getElem?_eq_getElem (by rw [E.len]; exact E.pos)⟩
        rw [hu, add_lit] at h1
        exact lt_of_cell h1
    · obtain ⟨i, hi⟩ := List.mem_iff_getElem?.1 (List.mem_of_mem_take hx)
      exact (hq i x hi).2

/-- A slice of strings. -/
theorem open_strs_sl {t e : TypeId} {p : Option Addr} {len cap : Nat} {d : DataW H} {ps : List MemPlace} (ht : P.underlying t = some (.slice e)) (he : P.underlying e = some .string) (hC : P.cellsOf e = 1)
    (h : DataW.Trod enc P W 0 (fun _ => true) true t (.slice p len cap) d ps) :
    ∃ l : List ByteArray, len = l.length ∧ SlAt encStr (fun g => g < W.heap.size) W p cap l ∧ ∀ s ∈ l, s.size ≤ maxLen := by
  refine open_sl encStr ht hC h fun n cs y hl hy => ?_
  match cs, hl with
  | [v], _ =>
    obtain ⟨s, hs, _, hz⟩ := DataW.trod_string he hy
    exact ⟨s, hs.symm, hz⟩
end
end Go.Proofs.Ytbcejodnjeklpaa
