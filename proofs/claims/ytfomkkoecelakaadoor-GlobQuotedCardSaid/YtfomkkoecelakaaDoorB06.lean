/-
  Contracts of the reference for layer 3: lists of entries.
-/
import Derived.Test.YtfomkkoecelakaaDoorB05

set_option linter.unusedSimpArgs false
set_option linter.unusedVariables false

set_option maxRecDepth 100000
namespace Go.Proofs.YtfomkkoecelakaaDoor
open Go.RowKit

end Go.Proofs.YtfomkkoecelakaaDoor

/-
  Contracts of the reference for layer 3, the second part: Put, Set, From.
-/
set_option maxRecDepth 100000
namespace Go.Proofs.YtfomkkoecelakaaDoor
open Go.RowKit

theorem not_bPre_of_size {s p : ByteArray} (h : s.size < p.size) : bPre s p = false := by
  rw [← Bool.not_eq_true]
  intro hp
  simp only [bPre, List.isPrefixOf_iff_prefix] at hp
  have := hp.length_le
  rw [← Lib.size_eq, ← Lib.size_eq] at this
  omega

theorem bPre_extract {s p : ByteArray} (h : p.size ≤ s.size) : ((s.extract 0 p.size).toList == p.toList) = bPre s p := by
  have := Lib.hasPrefix_raw s p
  rw [decide_eq_true h, Bool.true_and] at this
  rw [this]; rfl

theorem putErr_cases (es : List Ent) (name : ByteArray) : putErr es name = 18 ∨ putErr es name = 11 ∨ putErr es name = 13 ∨ putErr es name = 0 := by
  unfold putErr; split; · simp
  split; · simp
  split <;> simp

end Go.Proofs.YtfomkkoecelakaaDoor

/-
  Directories by what they own: the contracts of Put, Set, Drop once more, with the row's block as the footprint.
-/
set_option maxRecDepth 100000
namespace Go.Proofs.YtfomkkoecelakaaDoor
open Go.RowKit

/-- The directory at a holds es; v: the slice in its cell. -/
def IsD (w : World) (a : Addr) (v : Value) (es : List Ent) : Prop := IsDir (fun g => v.ownBlock = some g) w a v es

theorem IsDir.d {G : Nat → Prop} {w : World} {a : Addr} {v : Value} {es : List Ent} (h : IsDir G w a v es) : IsD w a v es :=
  ⟨h.cell, h.free, h.spot, h.own.mono (fun _ hg _ => hg), h.rising, h.names, h.apart⟩
theorem IsD.any {G : Nat → Prop} {w : World} {a : Addr} {v : Value} {es : List Ent} (h : IsD w a v es) (hG : ∀ g, v.ownBlock = some g → G g) : IsDir G w a v es :=
  ⟨h.cell, h.free, h.spot, h.own.mono (fun g hg _ => hG g hg), h.rising, h.names, h.apart⟩
theorem IsD.lt {w : World} {a : Addr} {v : Value} {es : List Ent} (h : IsD w a v es) : a.block < w.heap.size := lt_of_cell h.cell
theorem IsD.ownlt {w : World} {a : Addr} {v : Value} {es : List Ent} (h : IsD w a v es) : ∀ g, v.ownBlock = some g → g < w.heap.size := h.own.lt

theorem IsD.keep {F : Nat → Prop} {w w' : World} {a : Addr} {v : Value} {es : List Ent} (h : IsD w a v es) (hk : Keeps F w w') (ha : ¬ F a.block) (ho : ∀ g, v.ownBlock = some g → ¬ F g) : IsD w' a v es :=
  ⟨(hk.cell h.lt ha).trans h.cell, (hk.frozen h.lt ha).trans h.free, h.spot, h.own.keep hk ho, h.rising, h.names, h.apart⟩

/-- From w to w' the directory at a (slice v) has come to hold es'; nothing but it has turned. -/
def DTo (w w' : World) (a : Addr) (v : Value) (es' : List Ent) : Prop :=
  ∃ v', IsD w' a v' es' ∧ Keeps (fun g => v.ownBlock = some g) (w.setCell a v') w' ∧ ∀ g, v'.ownBlock = some g → v.ownBlock = some g ∨ w.heap.size ≤ g

theorem DirTo.d {w w' : World} {a : Addr} {v : Value} {es' : List Ent} (h : DirTo (fun g => v.ownBlock = some g ∨ w.heap.size ≤ g) w w' a es') : DTo w w' a v es' := by
  obtain ⟨v', h1, h2⟩ := h
  refine ⟨v', h1.d, h2.mono (fun g hg h => h.elim id (fun h => ?_)), h1.own.2⟩
  have : (w.setCell a v').heap.size = w.heap.size := by simp [World.setCell]
  omega

theorem put_d (w : World) (a : Addr) (v : Value) (es : List Ent) (name : ByteArray) (n : Int) (h : IsD w a v es) (hn : es.length < 4294967295) :
    Calls Tryd.prog 48 #[.pointer (some a), .string name, .int .i64 n] w fun e w' => e = .returned (.int .i64 (putErr es name)) ∧ DTo w w' a v (putTo es name n) :=
  (put_any _ w a v es name n (h.any (G := fun g => v.ownBlock = some g ∨ w.heap.size ≤ g) (fun g hg => .inl hg)) hn (fun g hg => .inr hg)).mono fun _ _ ⟨h1, h2⟩ => ⟨h1, h2.d⟩

theorem drop_d (w : World) (a : Addr) (v : Value) (es : List Ent) (name : ByteArray) (h : IsD w a v es) (hn : es.length < 4294967295) :
    Calls Tryd.prog 49 #[.pointer (some a), .string name] w fun e w' => e = .returned (.int .i64 (hasErr es name)) ∧ DTo w w' a v (entDel es name) :=
  (drop_any _ w a v es name (h.any (G := fun g => v.ownBlock = some g ∨ w.heap.size ≤ g) (fun g hg => .inl hg)) hn).mono fun _ _ ⟨h1, h2⟩ => ⟨h1, h2.d⟩

/-- What keeps the directory's own blocks free is kept. -/
theorem DTo.keeps {F : Nat → Prop} {W w w' : World} {a : Addr} {v : Value} {es' : List Ent} (h : DTo w w' a v es') (hk : Keeps F W w) (ha : F a.block ∨ W.heap.size ≤ a.block) (hv : ∀ g, v.ownBlock = some g → F g ∨ W.heap.size ≤ g) : Keeps F W w' := by
  obtain ⟨v', _, h2, _⟩ := h
  exact (hk.setCell ha v').step h2 hv

theorem DTo.size {w w' : World} {a : Addr} {v : Value} {es' : List Ent} (h : DTo w w' a v es') : w.heap.size ≤ w'.heap.size := by
  obtain ⟨v', _, h2, _⟩ := h
  have := h2.size
  simpa [World.setCell] using this

theorem filters_len (es : List Ent) (name : ByteArray) : (es.filter (fun e => bLt e.1 name)).length + (es.filter (fun e => bLt name e.1)).length ≤ es.length := by
  induction es with
  | nil => simp
  | cons a l ih =>
    rw [List.filter_cons, List.filter_cons, List.length_cons]
    cases h1 : bLt a.1 name with
    | true => simp [bLt_asymm h1]; omega
    | false => cases h2 : bLt name a.1 <;> simp <;> omega

theorem putTo_len (es : List Ent) (name : ByteArray) (n : Int) : (putTo es name n).length ≤ es.length + 1 := by
  have h1 := filters_len es name
  unfold putTo
  split
  · unfold entPut
    simp only [List.length_append, List.length_singleton]
    omega
  · omega

theorem okName_small {s : ByteArray} (h : okName s = true) : ¬ 255 < s.size := by simp [okName] at h; omega

theorem putErr_zero {l : List Ent} {name : ByteArray} : putErr l name = 0 ↔ okName name = true ∧ entHas l name = false := by
  unfold putErr
  constructor
  · intro h
    split at h; · cases h
    split at h; · cases h
    split at h; · cases h
    · next h2 h3 => exact ⟨by simpa using h2, by simpa using h3⟩
  · rintro ⟨h1, h2⟩
    rw [if_neg (okName_small h1), if_neg (by simp [h1]), if_neg (by simp [h2])]

theorem putTo_rising {es : List Ent} (h : Rising es) (name : ByteArray) (n : Int) : Rising (putTo es name n) := by
  unfold putTo; split
  · exact h.put name n
  · exact h

/-- A new directory. -/
theorem IsD.new (w : World) (t : TypeId) : IsD (w.alloc (.cells #[.slice none 0 0] t)) ⟨w.heap.size, 0, none⟩ (.slice none 0 0) [] :=
  ⟨cell_of_row _ _ _ _ _ _ (heap_alloc_new w _), frozen_of_row _ _ _ _ _ (heap_alloc_new w _), rfl, Own.nil _ _ _ _, List.Pairwise.nil, (fun _ h => by cases h), (fun h => by simp [Value.ownBlock] at h)⟩

end Go.Proofs.YtfomkkoecelakaaDoor
