/-
  Variables of several cells, small laws of memory, for seats without a disk.
-/
import Derived.Test.YtokpmakhhhlbkaaDoorB01
import Derived.Test.YtokpmakhhhlbkaaDoorB23

set_option linter.unusedSimpArgs false
set_option linter.unusedVariables false

set_option maxRecDepth 100000
namespace Go.Proofs.YtokpmakhhhlbkaaDoor
open Go Go.RowKit

theorem elemOf {α : Type} {P : Program} {E : Enc α} {t e : TypeId} {z : α} {bytes : Nat} (zv : Value) (hu : P.underlying t = some (.slice e))
    (h : (P.info? e).map (fun i => (i.zero, i.size, i.bytes)) = some (some zv, E.k, bytes)) (hz : zv.cells.toList = E.enc z) : ElemT P E t e z bytes := by
  refine ⟨hu, ?_⟩
  cases hi : P.info? e with
  | none => rw [hi] at h; cases h
  | some i => rw [hi] at h; simp at h; exact ⟨i, rfl, h.2.1, h.2.2, zv, h.1, hz⟩

theorem kset (w : World) (p : Addr) (u : Value) : Keeps (fun x => x = p.block) w (w.setCell p u) := Keeps.setCell (p := p) (Keeps.refl (fun x => x = p.block) w) (Or.inl rfl) u

theorem ba_eq {a b : ByteArray} (h : a.data.toList = b.data.toList) : a = b := ByteArray.ext (Array.toList_inj.1 h)

theorem xell_set {w : World} {g j k : Nat} {v u : Value} (h : w.cell? ⟨g, j, none⟩ = some v) : (w.setCell ⟨g, k, none⟩ u).cell? ⟨g, j, none⟩ = some (if j = k then u else v) := by
  by_cases e : j = k
  · subst e; rw [if_pos rfl]; exact World.cell?_setCell_same _ _ _ h
  · rw [if_neg e, World.cell?_setCell_other _ _ _ _ (by simp [e])]; exact h
theorem xrozen_set (w : World) (p q : Addr) (u : Value) : (w.setCell p u).frozen? q = w.frozen? q := by simp

/-- A variable of several cells. -/
structure Bk (w : World) (B : Nat) (l : List Value) : Prop where
  lt : B < w.heap.size
  cell : ∀ i v, l[i]? = some v → w.cell? ⟨B, i, none⟩ = some v
  fz : ∀ j, w.frozen? ⟨B, j, none⟩ = false
section
variable {w w' : World} {B : Nat} {l : List Value}
theorem Bk.new {cs : Array Value} {T : TypeId} (k : Keeps NoB (w.alloc (.cells cs T)) w') : Bk w' w.heap.size cs.toList := by
  have hn := heap_alloc_new w (.cells cs T)
  have h4 := (k.block w.heap.size (by simp) (fun h => h)).trans hn
  refine ⟨Nat.lt_of_lt_of_le (by simp) k.size, fun i v hv => ?_, fun j => frozen_of_row w' _ j _ T h4⟩
  rw [cell_of_row w' _ i _ T (0, 0) h4, ← Array.getElem?_toList]
  exact hv
theorem Bk.keep {G : Nat → Prop} (h : Bk w B l) (k : Keeps G w w') (hB : ¬ G B) : Bk w' B l :=
  ⟨Nat.lt_of_lt_of_le h.lt k.size, fun i v hv => (k.cell (p := ⟨B, i, none⟩) h.lt hB).trans (h.cell i v hv), fun j => (k.frozen (p := ⟨B, j, none⟩) h.lt hB).trans (h.fz j)⟩
theorem Bk.on (h : Bk w B l) (k : Keeps NoB w w') : Bk w' B l := h.keep k (fun h => h)
theorem Bk.put (h : Bk w B l) (i : Nat) (v : Value) : Bk (w.setCell ⟨B, i, none⟩ v) B (l.set i v) := by
  refine ⟨by simpa using h.lt, fun j u hu => ?_, fun j => (xrozen_set _ _ _ _).trans (h.fz j)⟩
  rw [List.getElem?_set] at hu
  split at hu
  · next e =>
    subst e
    split at hu
    · next hl =>
      cases hu
      have := xell_set (k := i) (u := v) (h.cell i _ (List.getElem?_eq_getElem hl))
      rw [if_pos rfl] at this
      exact this
    · cases hu
  · next e =>
    have := xell_set (k := i) (u := v) (h.cell j u hu)
    rw [if_neg (fun x => e x.symm)] at this
    exact this
end
end Go.Proofs.YtokpmakhhhlbkaaDoor
