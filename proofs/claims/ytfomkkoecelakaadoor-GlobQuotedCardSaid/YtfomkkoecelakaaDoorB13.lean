/-
  How the reference's disk lies in memory: rows of nodes, each with its slice of entries.
-/
import Derived.Test.YtfomkkoecelakaaDoorB09
import Derived.Test.YtfomkkoecelakaaDoorB06
import Derived.Test.YtfomkkoecelakaaDoorB10
import Derived.BigQuiet
import Derived.Deep.QuietTactic
import Derived.Test.YtfomkkoecelakaaDoorB11
import Derived.Test.YtfomkkoecelakaaDoorB12
import Derived.Handy
import Derived.Deep.RegionWith
import Derived.Deep.CutRange
import Derived.Laws.ResultCell
import Derived.Lib.SlFresh
import Derived.Test.YtfomkkoecelakaaDoorB08
import Derived.Deep.RegionHeld3

set_option linter.unusedSimpArgs false
set_option linter.unusedVariables false

set_option maxRecDepth 100000
namespace Go.Proofs.YtfomkkoecelakaaDoor
open Go.RowKit

/-- A row: a node, its entries by their slice. -/
structure RRow where
  kind : Int
  mode : Int
  holds : Int
  data : ByteArray
  p : Option Addr
  n : Nat
  c : Nat

def encRow : Enc RRow where
  enc := fun r => [.int .i64 r.kind, .int .i64 r.mode, .int .i64 r.holds, .string r.data, .slice r.p r.n r.c]
  k := 5
  pos := by decide
  len := fun _ => rfl
  one := fun x v hv => by simp at hv; rcases hv with rfl | rfl | rfl | rfl | rfl <;> rfl

/-- A row is a node's. -/
structure RowIs (S : Nat → Prop) (w : World) (r : RRow) (x : Nd) : Prop where
  kind : r.kind = x.kind
  mode : r.mode = x.mode
  holds : r.holds = x.holds
  data : r.data = x.data
  n : r.n = x.ents.length
  ents : SlAt encEnt S w r.p r.c x.ents

/-- The rows at p are the nodes d. -/
structure RefAt (S : Nat → Prop) (w : World) (p : Option Addr) (c : Nat) (d : Nds) : Prop where
  rows : ∃ rows : List RRow, rows.length = d.length ∧ SlAt encRow S w p c rows ∧ ∀ (i : Nat) (r : RRow), rows[i]? = some r → RowIs S w r (nd d i)

def refV (p : Option Addr) (c : Nat) (d : Nds) (room : Int) : Value := .agg #[.slice p d.length c, .int .i64 room]
def IsRef (S : Nat → Prop) (w : World) (v : Value) (d : Nds) (room : Int) : Prop := ∃ p c, v = refV p c d room ∧ RefAt S w p c d

section
variable {S : Nat → Prop} {w w' : World} {p : Option Addr} {c : Nat} {d : Nds} {room : Int} {v : Value}

theorem RowIs.keepS {S' F : Nat → Prop} {r : RRow} {x : Nd} (h : RowIs S w r x) (k : Keeps F w w') (hF : ∀ g, S g → g < w.heap.size → ¬ F g) (hS : ∀ g, S g → g < w.heap.size → S' g) : RowIs S' w' r x :=
  ⟨h.kind, h.mode, h.holds, h.data, h.n, h.ents.keepS k hF hS⟩

theorem RefAt.keepS {S' F : Nat → Prop} (h : RefAt S w p c d) (k : Keeps F w w') (hF : ∀ g, S g → g < w.heap.size → ¬ F g) (hS : ∀ g, S g → g < w.heap.size → S' g) : RefAt S' w' p c d := by
  obtain ⟨rows, h1, h2, h3⟩ := h.rows
  exact ⟨rows, h1, h2.keepS k hF hS, fun i r hi => (h3 i r hi).keepS k hF hS⟩

theorem RefAt.keepN (h : RefAt S w p c d) (k : Keeps NoB w w') : RefAt S w' p c d := h.keepS k (fun _ _ _ h => h) (fun _ h _ => h)

theorem IsRef.keepS {S' F : Nat → Prop} (h : IsRef S w v d room) (k : Keeps F w w') (hF : ∀ g, S g → g < w.heap.size → ¬ F g) (hS : ∀ g, S g → g < w.heap.size → S' g) : IsRef S' w' v d room := by
  obtain ⟨p, c, rfl, h⟩ := h
  exact ⟨p, c, rfl, h.keepS k hF hS⟩
theorem IsRef.keepN (h : IsRef S w v d room) (k : Keeps NoB w w') : IsRef S w' v d room := h.keepS k (fun _ _ _ h => h) (fun _ h _ => h)

/-- The cells of a row. -/
theorem RefAt.row (h : RefAt S w p c d) {i : Nat} (hi : i < d.length) :
    ∃ g off q n m, p = some ⟨g, off, none⟩ ∧ S g ∧ g < w.heap.size ∧ w.cell? ⟨g, off + i * 5, none⟩ = some (.int .i64 (nd d i).kind) ∧ w.cell? ⟨g, off + i * 5 + 1, none⟩ = some (.int .i64 (nd d i).mode) ∧
      w.cell? ⟨g, off + i * 5 + 2, none⟩ = some (.int .i64 (nd d i).holds) ∧ w.cell? ⟨g, off + i * 5 + 3, none⟩ = some (.string (nd d i).data) ∧ w.cell? ⟨g, off + i * 5 + 4, none⟩ = some (.slice q n m) ∧
      n = (nd d i).ents.length ∧ SlAt encEnt S w q m (nd d i).ents := by
  obtain ⟨rows, h1, h2, h3⟩ := h.rows
  obtain ⟨r, hr⟩ : ∃ r, rows[i]? = some r := ⟨_, List.getElem?_eq_getElem (by omega)⟩
  have hR := h3 i r hr
  obtain ⟨g, off, hp, hS, hg, hc⟩ := h2.at hr
  refine ⟨g, off, r.p, r.n, r.c, hp, hS, hg, ?_, ?_, ?_, ?_, ?_, hR.n, hR.ents⟩
  · have := hc 0 _ rfl; rw [hR.kind] at this; exact this
  · have := hc 1 _ rfl; rw [hR.mode, ← Nat.add_assoc] at this; exact this
  · have := hc 2 _ rfl; rw [hR.holds, ← Nat.add_assoc] at this; exact this
  · have := hc 3 _ rfl; rw [hR.data, ← Nat.add_assoc] at this; exact this
  · have := hc 4 _ rfl; rw [← Nat.add_assoc] at this; exact this

theorem RefAt.cap (h : RefAt S w p c d) : d.length ≤ c := by
  obtain ⟨rows, h1, h2, h3⟩ := h.rows
  have := h2.cap
  omega
theorem RefAt.max (h : RefAt S w p c d) : c ≤ maxLen := by
  obtain ⟨rows, h1, h2, h3⟩ := h.rows
  exact h2.max

end

end Go.Proofs.YtfomkkoecelakaaDoor

/-
  Contracts of the reference for layer 4, the first part: Has, Links, Used, Count.
-/
namespace Go.Proofs.YtfomkkoecelakaaDoor
open Go.RowKit
set_option maxRecDepth 100000
set_option maxHeartbeats 2000000

section
variable {S : Nat → Prop} {w : World} {p : Option Addr} {c : Nat} {d : Nds} {room : Int}

/-- How many of the first k nodes' entries name i. -/
def cntTo (d : Nds) (i : Int) (k : Nat) : Nat := cnt (d.take k) i

theorem sumBy_take (f : Nd → Nat) (d : Nds) (k : Nat) (hk : k < d.length) : sumBy f (d.take (k + 1)) = sumBy f (d.take k) + f (nd d k) := by
  have hg : d[k]? = some (nd d k) := by have := nd_get (d := d) (i := k) (by omega) (by omega); simpa using this
  rw [List.take_add_one, hg]
  simp only [Option.toList, sumBy_append]

theorem sumBy_le (f : Nd → Nat) (d : Nds) (k : Nat) : sumBy f (d.take k) ≤ sumBy f d := by
  have : sumBy f d = sumBy f (d.take k) + sumBy f (d.drop k) := by
    unfold sumBy
    rw [← List.sum_append_nat, ← List.map_append, List.take_append_drop]
  omega

theorem nms_take (es : List Ent) (i : Int) (k : Nat) (x : Ent) (h : es[k]? = some x) : nms i (es.take (k + 1)) = nms i (es.take k) + if x.2 = i then 1 else 0 := by
  unfold nms
  rw [List.take_add_one, h]
  simp [List.countP_append, List.countP_cons]

theorem entSize_part (es : List Ent) (k : Nat) : entSize (es.take k) ≤ entSize es := by
  have : entSize es = entSize (es.take k) + entSize (es.drop k) := by
    unfold entSize
    rw [← List.sum_append_nat, ← List.map_append, List.take_append_drop]
  omega

theorem nms_le (es : List Ent) (i : Int) : nms i es ≤ es.length := List.countP_le_length

theorem links_to (d : Nds) (hz : nd d 0 = Nd.gone) (h2 : 1 ≤ d.length) (i : Int) : links d i = (if i = 1 then 1 else 0) + cnt d i := rfl

theorem cnt_le_mass (d : Nds) (i : Int) : cnt d i ≤ mass d := by
  induction d with
  | nil => simp [cnt, sumBy]
  | cons a d ih =>
    simp only [cnt, mass, sumBy, List.map_cons, List.sum_cons] at ih ⊢
    have : namesOf i a ≤ mass1 a := by
      unfold namesOf mass1
      have := List.countP_le_length (p := fun e : Ent => decide (e.2 = i)) (l := a.ents)
      omega
    omega

theorem cnt_one (hz : nd d 0 = Nd.gone) (h2 : 1 ≤ d.length) (f : Nd → Nat) (hf : f Nd.gone = 0) : sumBy f (d.take 1) = 0 := by
  have := sumBy_take f d 0 (by omega)
  rw [show sumBy f (d.take 0) = 0 from rfl] at this
  rw [this]
  show 0 + f (nd d 0) = 0
  rw [hz, hf]

theorem count_le_mass (d : Nds) : count d ≤ d.length := by
  induction d with
  | nil => simp [count, sumBy]
  | cons a d ih =>
    simp only [count, sumBy, List.map_cons, List.sum_cons, List.length_cons] at ih ⊢
    have : here1 a ≤ 1 := by unfold here1; split <;> omega
    omega

end

end Go.Proofs.YtfomkkoecelakaaDoor

/-
  Contracts of the reference for layer 4, the second part: what only reads.
-/
namespace Go.Proofs.YtfomkkoecelakaaDoor
open Go.RowKit
set_option maxRecDepth 100000
set_option maxHeartbeats 2000000

/-- A row, in cells. -/
structure RowAt (S : Nat → Prop) (w : World) (g off k : Nat) (x : Nd) (q : Option Addr) (m : Nat) : Prop where
  lt : g < w.heap.size
  c0 : w.cell? ⟨g, off + k * 5, none⟩ = some (.int .i64 x.kind)
  c1 : w.cell? ⟨g, off + k * 5 + 1, none⟩ = some (.int .i64 x.mode)
  c2 : w.cell? ⟨g, off + k * 5 + 2, none⟩ = some (.int .i64 x.holds)
  c3 : w.cell? ⟨g, off + k * 5 + 3, none⟩ = some (.string x.data)
  c4 : w.cell? ⟨g, off + k * 5 + 4, none⟩ = some (.slice q x.ents.length m)
  sl : SlAt encEnt S w q m x.ents

theorem RowAt.keepN {S : Nat → Prop} {w w' : World} {g off k : Nat} {x : Nd} {q : Option Addr} {m : Nat} (h : RowAt S w g off k x q m) (hk : Keeps NoB w w') : RowAt S w' g off k x q m :=
  ⟨Nat.lt_of_lt_of_le h.lt hk.size, (hk.cell (p := ⟨g, _, none⟩) h.lt (fun h => h)).trans h.c0, (hk.cell (p := ⟨g, _, none⟩) h.lt (fun h => h)).trans h.c1, (hk.cell (p := ⟨g, _, none⟩) h.lt (fun h => h)).trans h.c2,
    (hk.cell (p := ⟨g, _, none⟩) h.lt (fun h => h)).trans h.c3, (hk.cell (p := ⟨g, _, none⟩) h.lt (fun h => h)).trans h.c4, h.sl.keepN hk⟩

theorem boxed {w w1 : World} {cs : Array Value} {T : TypeId} (hk : Keeps NoB (w.alloc (.cells cs T)) w1) (j : Nat) (v : Value) (hv : cs[j]? = some v) : w1.cell? ⟨w.heap.size, j, none⟩ = some v := by
  have hn := heap_alloc_new w (.cells cs T)
  have h4 := (hk.block w.heap.size (by simp) (fun h => h)).trans hn
  rw [cell_of_row w1 _ j _ T (0, 0) h4]
  exact hv

section
variable {S : Nat → Prop} {w : World} {p : Option Addr} {c : Nat} {d : Nds} {room : Int}

theorem RefAt.rowAt (h : RefAt S w p c d) {k : Nat} (hk : k < d.length) : ∃ g off q m, p = some ⟨g, off, none⟩ ∧ S g ∧ RowAt S w g off k (nd d k) q m := by
  obtain ⟨g, off, q, n, m, hp, hS, hg, c0, c1, c2, c3, c4, hn, hsl⟩ := h.row hk
  subst hn
  exact ⟨g, off, q, m, hp, hS, hg, c0, c1, c2, c3, c4, hsl⟩

theorem has_nat {i : Int} (h : has d i) : ∃ k : Nat, i = (k : Int) ∧ k < d.length := by
  have := has_range h
  exact ⟨i.toNat, by omega, this.2⟩

theorem entGet_idx {es : List Ent} (hr : Rising es) (name : ByteArray) : (entGet es name = none ∧ entIdx es name = -1) ∨ ∃ (t : Nat) (x : Ent), es[t]? = some x ∧ entGet es name = some x.2 ∧ entIdx es name = (t : Int) := by
  cases hg : entGet es name with
  | none =>
    have hh : entHas es name = false := by rw [← entGet_isSome, hg]; rfl
    exact .inl ⟨rfl, by unfold entIdx; rw [hh]; rfl⟩
  | some k =>
    obtain ⟨h1, _⟩ := ent_split hr hg
    exact .inr ⟨_, _, h1, rfl, by unfold entIdx; rw [entGet_has hg]; rfl⟩

end

end Go.Proofs.YtfomkkoecelakaaDoor

/-
  Contracts of the reference for layer 4, the third part: Up, Below, gives, noughts, Read.
-/
namespace Go.Proofs.YtfomkkoecelakaaDoor
open Go.RowKit
set_option maxRecDepth 100000
set_option maxHeartbeats 2000000

section
variable {S : Nat → Prop} {w : World} {p : Option Addr} {c : Nat} {d : Nds} {room : Int}

theorem cnt_from (d : Nds) (i : Int) (hz : nd d 0 = Nd.gone) (h : ∀ k : Nat, 1 ≤ k → k < d.length → nms i (nd d k).ents = 0) : cnt d i = 0 := by
  rcases Nat.eq_zero_or_pos (cnt d i) with h0 | h0
  · exact h0
  · obtain ⟨j, e, he, hi⟩ := cnt_pos.1 h0
    have hr : 0 ≤ j ∧ j.toNat < d.length := by
      by_cases hh : 0 ≤ j ∧ j.toNat < d.length
      · exact hh
      · rw [nd_gone hh] at he; cases he
    have h1 : 1 ≤ j.toNat := by
      by_cases hj : j = 0
      · subst hj; rw [hz] at he; cases he
      · omega
    have := h j.toNat h1 hr.2
    rw [Int.toNat_of_nonneg hr.1] at this
    have := nms_pos.2 ⟨e, he, hi⟩
    omega

/-- It answers whether P. -/
def SaysIf (w w' : World) (e : Ending) (P : Prop) : Prop := ∃ b : Bool, e = .returned (.bool b) ∧ (b = true ↔ P) ∧ Keeps NoB w w'

theorem noughts_none : (⟨#[]⟩ : ByteArray) = noughts 0 := rfl
theorem noughts_next (k : Nat) : noughts k ++ ⟨#[0]⟩ = noughts (k + 1) := by
  apply ByteArray.ext
  simp [noughts, Array.replicate_succ]

theorem extract_size {s : ByteArray} {a k : Nat} (h : k = 0 ∨ a + k ≤ s.size) : (s.extract a (a + k)).size = k := by
  rw [ByteArray.size_extract]
  omega

theorem empty_eq {a b : ByteArray} (ha : a.size = 0) (hb : b.size = 0) : a = b :=
  (ByteArray.ext (Array.eq_empty_of_size_eq_zero ha) : a = ⟨#[]⟩).trans (ByteArray.ext (Array.eq_empty_of_size_eq_zero hb) : b = ⟨#[]⟩).symm

theorem cut_end {s : ByteArray} {X Y k : Nat} (h : k = 0 ∨ X + k ≤ s.size) (h2 : k ≤ Y) (h3 : ¬ (X + k < s.size ∧ k < Y)) : s.extract X (X + k) = cut s X Y := by
  unfold cut
  rw [Int.toNat_natCast, Int.toNat_natCast]
  by_cases hX : X < s.size
  · rw [show min X s.size = X by omega, show min Y (s.size - X) = k by omega]
  · have hk : k = 0 := by omega
    subst hk
    refine empty_eq (extract_size (.inl rfl)) ?_
    rw [ByteArray.size_extract]
    omega

theorem cut_next {s : ByteArray} {a k : Nat} (h : a + k < s.size) : s.extract a (a + k) ++ s.extract (a + k) (a + k + 1) = s.extract a (a + (k + 1)) := by
  apply ByteArray.ext
  apply Array.toList_inj.1
  simp
  omega

end

end Go.Proofs.YtfomkkoecelakaaDoor

/-
  Contracts of the reference for layer 4, the fourth part: put, free.
-/
namespace Go.Proofs.YtfomkkoecelakaaDoor
open Go.RowKit
set_option maxRecDepth 100000
set_option maxHeartbeats 400000

def noRow : RRow := ⟨0, 0, 0, ByteArray.empty, none, 0, 0⟩
/-- Variables laid one behind another, still as they were. -/
theorem boxes2 {w w1 : World} {a b : Array Value} {ta tb : TypeId} (hk : Keeps NoB ((w.alloc (.cells a ta)).alloc (.cells b tb)) w1) :
    (∀ j v, a[j]? = some v → w1.cell? ⟨w.heap.size, j, none⟩ = some v) ∧ (∀ j v, b[j]? = some v → w1.cell? ⟨w.heap.size + 1, j, none⟩ = some v) ∧
    (∀ j, w1.frozen? ⟨w.heap.size, j, none⟩ = false) ∧ (∀ j, w1.frozen? ⟨w.heap.size + 1, j, none⟩ = false) ∧ w.heap.size + 2 ≤ w1.heap.size := by
  have n1 := heap_alloc_new w (.cells a ta)
  have n2 := heap_alloc_new (w.alloc (.cells a ta)) (.cells b tb)
  have s1 : (w.alloc (.cells a ta)).heap.size = w.heap.size + 1 := by simp
  have s2 : ((w.alloc (.cells a ta)).alloc (.cells b tb)).heap.size = w.heap.size + 2 := by simp
  rw [s1] at n2
  have n1' := (Below.heap_alloc (w.alloc (.cells a ta)) (.cells b tb) w.heap.size (by omega)).trans n1
  have b1 := (hk.block w.heap.size (by omega) (fun h => h)).trans n1'
  have b2 := (hk.block (w.heap.size + 1) (by omega) (fun h => h)).trans n2
  have := hk.size
  exact ⟨fun j v hv => by rw [cell_of_row w1 _ j _ ta (0, 0) b1]; exact hv, fun j v hv => by rw [cell_of_row w1 _ j _ tb (0, 0) b2]; exact hv, fun j => frozen_of_row w1 _ j _ ta b1, fun j => frozen_of_row w1 _ j _ tb b2, by omega⟩

theorem boxes3 {w w1 : World} {a b e : Array Value} {ta tb te : TypeId} (hk : Keeps NoB (((w.alloc (.cells a ta)).alloc (.cells b tb)).alloc (.cells e te)) w1) :
    (∀ j v, a[j]? = some v → w1.cell? ⟨w.heap.size, j, none⟩ = some v) ∧ (∀ j v, b[j]? = some v → w1.cell? ⟨w.heap.size + 1, j, none⟩ = some v) ∧ (∀ j v, e[j]? = some v → w1.cell? ⟨w.heap.size + 2, j, none⟩ = some v) ∧
    (∀ j, w1.frozen? ⟨w.heap.size, j, none⟩ = false) ∧ (∀ j, w1.frozen? ⟨w.heap.size + 1, j, none⟩ = false) ∧ (∀ j, w1.frozen? ⟨w.heap.size + 2, j, none⟩ = false) ∧ w.heap.size + 3 ≤ w1.heap.size := by
  have s2 : ((w.alloc (.cells a ta)).alloc (.cells b tb)).heap.size = w.heap.size + 2 := by simp
  have n3 := heap_alloc_new ((w.alloc (.cells a ta)).alloc (.cells b tb)) (.cells e te)
  rw [s2] at n3
  have s3 : (((w.alloc (.cells a ta)).alloc (.cells b tb)).alloc (.cells e te)).heap.size = w.heap.size + 3 := by simp
  have b3 := (hk.block (w.heap.size + 2) (by omega) (fun h => h)).trans n3
  obtain ⟨h1, h2, h3, h4, _⟩ := boxes2 (((Keeps.refl NoB _).alloc _).trans hk)
  have := hk.size
  exact ⟨h1, h2, fun j v hv => by rw [cell_of_row w1 _ j _ te (0, 0) b3]; exact hv, h3, h4, fun j => frozen_of_row w1 _ j _ te b3, by omega⟩

theorem results_cell_one {fn : Func} {p : Tmp} {ty : TypeId} (h : fn.results = #[.cell p ty]) (tmps : Array Value) (P : Program) (w : World) :
    (results fn tmps).run P w = ((asAddr (tmps.getD p undef)).run P w).andThen fun a w₁ => (loadVar ty a).run P w₁ := by
  simp only [results, h]
  simp [Sem.run_bind, Result.andThen]

/-- Five cells stored one behind another. -/
def set5 (w : World) (g o : Nat) (v0 v1 v2 v3 v4 : Value) : World :=
  ((((w.setCell ⟨g, o, none⟩ v0).setCell ⟨g, o + 1, none⟩ v1).setCell ⟨g, o + 2, none⟩ v2).setCell ⟨g, o + 3, none⟩ v3).setCell ⟨g, o + 4, none⟩ v4

theorem set5_keeps (w : World) (g o : Nat) (v0 v1 v2 v3 v4 : Value) : Keeps (fun x => x = g) w (set5 w g o v0 v1 v2 v3 v4) := by
  unfold set5
  exact ((((keeps_set w ⟨g, o, none⟩ v0).trans (keeps_set _ ⟨g, o + 1, none⟩ v1)).trans (keeps_set _ ⟨g, o + 2, none⟩ v2)).trans (keeps_set _ ⟨g, o + 3, none⟩ v3)).trans (keeps_set _ ⟨g, o + 4, none⟩ v4)

theorem set5_size (w : World) (g o : Nat) (v0 v1 v2 v3 v4 : Value) : (set5 w g o v0 v1 v2 v3 v4).heap.size = w.heap.size := by unfold set5; simp [World.setCell]

theorem Own.row5 {e : TypeId} {S : Nat → Prop} {w : World} {g cp k : Nat} {rows : List RRow} {r0 : RRow} (h : Own encRow e S w (.slice (some ⟨g, 0, none⟩) rows.length cp) rows) (hk : rows[k]? = some r0) (r : RRow) :
    Own encRow e S (set5 w g (k * 5) (.int .i64 r.kind) (.int .i64 r.mode) (.int .i64 r.holds) (.string r.data) (.slice r.p r.n r.c)) (.slice (some ⟨g, 0, none⟩) rows.length cp) (rows.set k r) := by
  obtain ⟨hkl, hke⟩ := List.getElem?_eq_some_iff.1 hk
  have ln : ∀ (x : RRow), (rows.set k x).length = rows.length := fun x => by simp
  have gt : ∀ (x : RRow), (rows.set k x)[k]? = some x := fun x => by simp [hkl]
  have st : ∀ (x y : RRow), (rows.set k x).set k y = rows.set k y := fun x y => by simp
  have h1 := h.stored k 0 r0 ⟨r.kind, r0.mode, r0.holds, r0.data, r0.p, r0.n, r0.c⟩ (.int .i64 r.kind) hk (by decide) rfl
  rw [← ln ⟨r.kind, r0.mode, r0.holds, r0.data, r0.p, r0.n, r0.c⟩] at h1
  have h2 := h1.stored k 1 _ ⟨r.kind, r.mode, r0.holds, r0.data, r0.p, r0.n, r0.c⟩ (.int .i64 r.mode) (gt _) (by decide) rfl
  rw [st, ln, ← ln ⟨r.kind, r.mode, r0.holds, r0.data, r0.p, r0.n, r0.c⟩] at h2
  have h3 := h2.stored k 2 _ ⟨r.kind, r.mode, r.holds, r0.data, r0.p, r0.n, r0.c⟩ (.int .i64 r.holds) (gt _) (by decide) rfl
  rw [st, ln, ← ln ⟨r.kind, r.mode, r.holds, r0.data, r0.p, r0.n, r0.c⟩] at h3
  have h4 := h3.stored k 3 _ ⟨r.kind, r.mode, r.holds, r.data, r0.p, r0.n, r0.c⟩ (.string r.data) (gt _) (by decide) rfl
  rw [st, ln, ← ln ⟨r.kind, r.mode, r.holds, r.data, r0.p, r0.n, r0.c⟩] at h4
  have h5 := h4.stored k 4 _ r (.slice r.p r.n r.c) (gt _) (by decide) rfl
  rw [st, ln] at h5
  exact h5

theorem upd_nat_get {d : Nds} {k : Nat} (hk : k < d.length) (x : Nd) (j : Int) : nd (upd d (k : Int) x) j = if j = k then x else nd d j := nd_upd (by omega) (by omega) x j

section
variable {S : Nat → Prop} {w : World} {p : Option Addr} {c : Nat} {d : Nds} {room : Int}

end

end Go.Proofs.YtfomkkoecelakaaDoor

/-
  Contracts of the reference for layer 4, the fifth part: free.
-/
namespace Go.Proofs.YtfomkkoecelakaaDoor
open Go.RowKit
set_option maxRecDepth 100000
set_option maxHeartbeats 1000000

/-- What free leaves. -/
def RFreeEnd (S : Nat → Prop) (w : World) (d : Nds) (room id : Int) (e : Ending) (w' : World) : Prop :=
  ∃ p' c' d', e = .returned (refV p' c' d' room) ∧ RefAt S w' p' c' d' ∧ Keeps NoB w w' ∧ Kills d d' ∧ ¬ Garb d' id ∧ ∀ j, Garb d' j → Garb d j

theorem Kills.garb {d d' : Nds} {i : Int} (h : Garb d i) (k : Kills d d') (hh : has d' i) : Garb d' i := by
  induction k with
  | refl => exact h
  | step j hj _ ih =>
    by_cases e : i = j
    · subst e
      have := (Kills.was ‹_› hh).1
      exact absurd rfl ((has_kill hj.1).1 this).1
    · exact ih (h.other hj.1 e) hh

theorem garb_kill {d : Nds} {i j : Int} (hi : has d i) (h : Garb (kill d i) j) : Garb d j ∨ ∃ e ∈ (nd d i).ents, e.2 = j := by
  obtain ⟨h1, h2, h3⟩ := h
  obtain ⟨h4, h5⟩ := (has_kill hi).1 h1
  rw [nd_kill hi, if_neg h4] at h3
  by_cases hn : namesOf j (nd d i) = 0
  · have := links_kill hi j
    exact .inl ⟨h5, by omega, h3⟩
  · exact .inr (namesOf_pos.1 (by omega))

theorem smallD_kills {d d' : Nds} (k : Kills d d') (h : smallD d) : smallD d' := by
  have := k.mass
  unfold smallD at *
  omega

/-- What the first step of free comes to: k is gone. -/
structure RFirst (d d1 : Nds) (k : Nat) (es : List Ent) : Prop where
  kills : Kills d d1
  garb : ∀ j, Garb d1 j → Garb d j ∨ ∃ e ∈ es, e.2 = j
  gone : ¬ has d1 k
  less : es ≠ [] → count d1 < count d
  inv : DInv d1
  small : smallD d1
  range : ∀ e ∈ es, 0 ≤ e.2 ∧ e.2.toNat < d.length

theorem rfree_facts {d : Nds} {k : Nat} (hI : DInv d) (hs : smallD d) (h1 : links d (k : Int) = 0) (h2 : (nd d (k : Int)).holds = 0) : RFirst d (kill d (k : Int)) k (nd d (k : Int)).ents := by
  have hrange : ∀ e ∈ (nd d (k : Int)).ents, 0 ≤ e.2 ∧ e.2.toNat < d.length := fun e he => has_range (hI.tgt k e he).1
  by_cases hi : has d (k : Int)
  · have hg : Garb d (k : Int) := ⟨hi, h1, h2⟩
    refine ⟨.one hg, fun j hj => garb_kill hi hj, fun h => ((has_kill hi).1 h).1 rfl, fun _ => by have := count_kill hi; omega, hI.kill hg, smallD_kills (.one hg) hs, hrange⟩
  · have hgone := (hI.node k).gone (not_has hi)
    have he : kill d (k : Int) = d := by
      refine Nds.ext (kill_length _ _) fun j => ?_
      by_cases hk : k < d.length
      · unfold kill
        rw [nd_upd (by omega) (by omega)]
        split
        · next e => rw [e, hgone]
        · rfl
      · unfold kill upd
        rw [if_pos (by omega), List.set_eq_of_length_le (by omega)]
    rw [he]
    refine ⟨.refl d, fun j hj => .inl hj, hi, fun h => ?_, hI, hs, hrange⟩
    rw [hgone] at h
    exact absurd rfl h

/-- Blocks of S, but for the two variables laid at w. -/
def But2 (S : Nat → Prop) (w : World) : Nat → Prop := fun b => S b ∧ b ≠ w.heap.size ∧ b ≠ w.heap.size + 1

/-- What stands in free's loop: the variables A (a disk) and C (the result), the disk, what is left of it. -/
structure FJ (S : Nat → Prop) (w wr : World) (d d1 : Nds) (room : Int) (es : List Ent) (t : Nat) (p : Option Addr) (c : Nat) (dt : Nds) : Prop where
  A0 : wr.cell? ⟨w.heap.size, 0, none⟩ = some (.slice p d.length c)
  A1 : wr.cell? ⟨w.heap.size, 1, none⟩ = some (.int .i64 room)
  C0 : wr.cell? ⟨w.heap.size + 1, 0, none⟩ = some (.slice none 0 0)
  C1 : wr.cell? ⟨w.heap.size + 1, 1, none⟩ = some (.int .i64 0)
  zA : ∀ j, wr.frozen? ⟨w.heap.size, j, none⟩ = false
  zC : ∀ j, wr.frozen? ⟨w.heap.size + 1, j, none⟩ = false
  ref : RefAt (But2 S w) wr p c dt
  kills : Kills d1 dt
  garb : ∀ j, Garb dt j → Garb d j ∨ ∃ e ∈ es.drop t, e.2 = j
  keeps : Keeps NoB w wr

theorem fj_set {S : Nat → Prop} {w wr : World} {d d1 : Nds} {room : Int} {es : List Ent} {t : Nat} {p : Option Addr} {c : Nat} {dt : Nds} {v0 v1 : Value}
    (A0 : wr.cell? ⟨w.heap.size, 0, none⟩ = some v0) (A1 : wr.cell? ⟨w.heap.size, 1, none⟩ = some v1) (C0 : wr.cell? ⟨w.heap.size + 1, 0, none⟩ = some (.slice none 0 0)) (C1 : wr.cell? ⟨w.heap.size + 1, 1, none⟩ = some (.int .i64 0))
    (zA : ∀ j, wr.frozen? ⟨w.heap.size, j, none⟩ = false) (zC : ∀ j, wr.frozen? ⟨w.heap.size + 1, j, none⟩ = false) (ref : RefAt (But2 S w) wr p c dt) (kills : Kills d1 dt) (garb : ∀ j, Garb dt j → Garb d j ∨ ∃ e ∈ es.drop t, e.2 = j) (keeps : Keeps NoB w wr) :
    FJ S w ((wr.setCell ⟨w.heap.size, 0, none⟩ (.slice p d.length c)).setCell ⟨w.heap.size, 1, none⟩ (.int .i64 room)) d d1 room es t p c dt := by
  have kk : Keeps (fun b => b = w.heap.size) wr ((wr.setCell ⟨w.heap.size, 0, none⟩ (.slice p d.length c)).setCell ⟨w.heap.size, 1, none⟩ (.int .i64 room)) := (keeps_set wr ⟨w.heap.size, 0, none⟩ _).trans (keeps_set _ ⟨w.heap.size, 1, none⟩ _)
  have hC := lt_of_cell C0
  have b0 := cell_set (k := 1) (u := .int .i64 room) (cell_set (k := 0) (u := .slice p d.length c) A0)
  have b1 := cell_set (k := 1) (u := .int .i64 room) (cell_set (k := 0) (u := .slice p d.length c) A1)
  refine ⟨b0, b1, (kk.cell (p := ⟨w.heap.size + 1, 0, none⟩) hC (by simp)).trans C0, (kk.cell (p := ⟨w.heap.size + 1, 1, none⟩) hC (by simp)).trans C1, fun j => ?_, fun j => (kk.frozen (p := ⟨w.heap.size + 1, j, none⟩) hC (by simp)).trans (zC j),
    ref.keepS kk (fun g hg _ e => hg.2.1 e) (fun g hg _ => hg), kills, garb, keeps.step kk (fun g hg => .inr (by omega))⟩
  exact (frozen_set _ _ _ _).trans ((frozen_set _ _ _ _).trans (zA j))

theorem fj_next {S : Nat → Prop} {w wr wx w4 : World} {d d1 : Nds} {room : Int} {es : List Ent} {t : Nat} {p : Option Addr} {c : Nat} {dt : Nds} (J : FJ S w wr d d1 room es t p c dt) (hkx : Keeps NoB wr wx) (hk4 : Keeps NoB wx w4) :
    w4.cell? ⟨w.heap.size, 0, none⟩ = some (.slice p d.length c) ∧ w4.cell? ⟨w.heap.size, 1, none⟩ = some (.int .i64 room) ∧ w4.cell? ⟨w.heap.size + 1, 0, none⟩ = some (.slice none 0 0) ∧ w4.cell? ⟨w.heap.size + 1, 1, none⟩ = some (.int .i64 0) ∧
    (∀ j, w4.frozen? ⟨w.heap.size, j, none⟩ = false) ∧ (∀ j, w4.frozen? ⟨w.heap.size + 1, j, none⟩ = false) := by
  have k := hkx.trans hk4
  have l1 := lt_of_cell J.A0
  have l2 := lt_of_cell J.C0
  exact ⟨(k.cell (p := ⟨w.heap.size, 0, none⟩) l1 (fun h => h)).trans J.A0, (k.cell (p := ⟨w.heap.size, 1, none⟩) l1 (fun h => h)).trans J.A1, (k.cell (p := ⟨w.heap.size + 1, 0, none⟩) l2 (fun h => h)).trans J.C0, (k.cell (p := ⟨w.heap.size + 1, 1, none⟩) l2 (fun h => h)).trans J.C1,
    fun j => (k.frozen (p := ⟨w.heap.size, j, none⟩) l1 (fun h => h)).trans (J.zA j), fun j => (k.frozen (p := ⟨w.heap.size + 1, j, none⟩) l2 (fun h => h)).trans (J.zC j)⟩

end Go.Proofs.YtfomkkoecelakaaDoor

/-
  Contracts of the reference for layer 4, the sixth part: New, Hold, Chmod, Empty.
-/
namespace Go.Proofs.YtfomkkoecelakaaDoor
open Go.RowKit
set_option maxRecDepth 100000
set_option maxHeartbeats 1000000

/-- The two variables of a method (the disk that was handed in, the result), and what was there before. -/
structure RBox (w w1 : World) (p : Option Addr) (n c : Nat) (room : Int) : Prop where
  A0 : w1.cell? ⟨w.heap.size, 0, none⟩ = some (.slice p n c)
  A1 : w1.cell? ⟨w.heap.size, 1, none⟩ = some (.int .i64 room)
  C0 : w1.cell? ⟨w.heap.size + 1, 0, none⟩ = some (.slice none 0 0)
  C1 : w1.cell? ⟨w.heap.size + 1, 1, none⟩ = some (.int .i64 0)
  zA : ∀ j, w1.frozen? ⟨w.heap.size, j, none⟩ = false
  zC : ∀ j, w1.frozen? ⟨w.heap.size + 1, j, none⟩ = false
  size : w.heap.size + 2 ≤ w1.heap.size
  keeps : Keeps NoB w w1

theorem rbox {w w1 : World} {p : Option Addr} {n c : Nat} {room : Int} {t1 t2 : TypeId} (hk : Keeps NoB ((w.alloc (.cells #[.slice p n c, .int .i64 room] t1)).alloc (.cells #[.slice none 0 0, .int .i64 0] t2)) w1) : RBox w w1 p n c room := by
  obtain ⟨a1, a2, z1, z2, z3⟩ := boxes2 hk
  exact ⟨a1 0 _ rfl, a1 1 _ rfl, a2 0 _ rfl, a2 1 _ rfl, z1, z2, z3, (((Keeps.refl NoB w).alloc _).alloc _).trans hk⟩

theorem RBox.on {w w1 w2 : World} {p : Option Addr} {n c : Nat} {room : Int} (h : RBox w w1 p n c room) (k : Keeps NoB w1 w2) : RBox w w2 p n c room := by
  have l1 := lt_of_cell h.A0
  have l2 := lt_of_cell h.C0
  have := k.size
  exact ⟨(k.cell (p := ⟨w.heap.size, 0, none⟩) l1 (fun h => h)).trans h.A0, (k.cell (p := ⟨w.heap.size, 1, none⟩) l1 (fun h => h)).trans h.A1, (k.cell (p := ⟨w.heap.size + 1, 0, none⟩) l2 (fun h => h)).trans h.C0, (k.cell (p := ⟨w.heap.size + 1, 1, none⟩) l2 (fun h => h)).trans h.C1,
    fun j => (k.frozen (p := ⟨w.heap.size, j, none⟩) l1 (fun h => h)).trans (h.zA j), fun j => (k.frozen (p := ⟨w.heap.size + 1, j, none⟩) l2 (fun h => h)).trans (h.zC j), by have := h.size; omega, h.keeps.trans k⟩

/-- What a method leaves: a disk, an error. -/
def RTo (S : Nat → Prop) (w : World) (d' : Nds) (room err : Int) (e : Ending) (w' : World) : Prop :=
  ∃ p' c', e = .returned (.tuple #[refV p' c' d' room, .int .i64 err]) ∧ RefAt S w' p' c' d' ∧ Keeps NoB w w'

section
variable {S : Nat → Prop} {w : World} {p : Option Addr} {c : Nat} {d : Nds} {room : Int}

theorem RefAt.but2 (h : RefAt S w p c d) {w1 : World} (hk : Keeps NoB w w1) : RefAt (But2 S w) w1 p c d := h.keepS hk (fun _ _ _ h => h) (fun g hg hl => ⟨hg, by omega, by omega⟩)

theorem but2_new (hS : ∀ g, w.heap.size ≤ g → S g) {w1 : World} (hk : w.heap.size + 2 ≤ w1.heap.size) : ∀ g, w1.heap.size ≤ g → But2 S w g := fun g hg => ⟨hS g (by omega), by omega, by omega⟩

/-- The result's variable stored: a disk that lies elsewhere. -/
theorem rto_store {w1 : World} {p' : Option Addr} {c' : Nat} {d' : Nds} {err : Int} (h : RefAt (But2 S w) w1 p' c' d') (k : Keeps NoB w w1) (v0 v1 : Value) :
    RTo S w d' room err (.returned (.tuple #[refV p' c' d' room, .int .i64 err])) ((w1.setCell ⟨w.heap.size + 1, 0, none⟩ v0).setCell ⟨w.heap.size + 1, 1, none⟩ v1) := by
  have kk : Keeps (fun b => b = w.heap.size + 1) w1 ((w1.setCell ⟨w.heap.size + 1, 0, none⟩ v0).setCell ⟨w.heap.size + 1, 1, none⟩ v1) := (keeps_set w1 ⟨w.heap.size + 1, 0, none⟩ _).trans (keeps_set _ ⟨w.heap.size + 1, 1, none⟩ _)
  exact ⟨_, _, rfl, h.keepS kk (fun b hb _ e => hb.2.2 e) (fun b hb _ => hb.1), k.step kk (fun b hb => .inr (by omega))⟩

def holdBy (d : Nds) (i b : Int) : Nds := upd d i ((nd d i).setHolds ((nd d i).holds + b))
def holdErr (d : Nds) (i b : Int) : Int := if has d i ∧ (0 ≤ b ∨ (nd d i).holds ≠ 0) then 0 else 12

end

end Go.Proofs.YtfomkkoecelakaaDoor

/-
  Contracts of the reference for layer 4, the seventh part: Leave.
-/
namespace Go.Proofs.YtfomkkoecelakaaDoor
open Go.RowKit
set_option maxRecDepth 100000
set_option maxHeartbeats 1000000

section
variable {S : Nat → Prop} {w : World} {p : Option Addr} {c : Nat} {d : Nds} {room : Int}

theorem drop_free (hI : DInv d) (hcl : NoGarb d) {i k : Int} {name : ByteArray} (hi : (nd d i).kind = 2) (hg : entGet (nd d i).ents name = some k) : has (dropTo d i name) k ∧ ∀ j, Garb (dropTo d i name) j → j = k := by
  have hh := setE_pos hI hi
  refine ⟨(has_setE hh _ k).2 (hI.tgt i _ (entGet_mem hg)).1, fun j hj => ?_⟩
  obtain ⟨g1, g2, g3⟩ := hj
  have h2 := drop_links hI hh hg j
  rw [show (nd (dropTo d i name) j).holds = (nd d j).holds from holds_setE hh _ j] at g3
  by_cases e : j = k
  · exact e
  · rw [if_neg (fun h => e h.symm)] at h2
    exact absurd ⟨(has_setE hh _ j).1 g1, by omega, g3⟩ (hcl j)

theorem boxedz {w w1 : World} {cs : Array Value} {T : TypeId} (hk : Keeps NoB (w.alloc (.cells cs T)) w1) (j : Nat) : w1.frozen? ⟨w.heap.size, j, none⟩ = false := by
  have hn := heap_alloc_new w (.cells cs T)
  have h4 := (hk.block w.heap.size (by simp) (fun h => h)).trans hn
  exact frozen_of_row w1 _ j _ T h4

theorem RBox.set {w w1 : World} {p : Option Addr} {n c : Nat} {room : Int} (h : RBox w w1 p n c room) {N : Nat} (hN : w.heap.size + 2 ≤ N) (j : Nat) (v : Value) : RBox w (w1.setCell ⟨N, j, none⟩ v) p n c room := by
  have k := keeps_set w1 ⟨N, j, none⟩ v
  have l1 := lt_of_cell h.A0
  have l2 := lt_of_cell h.C0
  have n1 : ¬ w.heap.size = N := by omega
  have n2 : ¬ w.heap.size + 1 = N := by omega
  have := k.size
  exact ⟨(k.cell (p := ⟨w.heap.size, 0, none⟩) l1 n1).trans h.A0, (k.cell (p := ⟨w.heap.size, 1, none⟩) l1 n1).trans h.A1, (k.cell (p := ⟨w.heap.size + 1, 0, none⟩) l2 n2).trans h.C0, (k.cell (p := ⟨w.heap.size + 1, 1, none⟩) l2 n2).trans h.C1,
    fun j => (k.frozen (p := ⟨w.heap.size, j, none⟩) l1 n1).trans (h.zA j), fun j => (k.frozen (p := ⟨w.heap.size + 1, j, none⟩) l2 n2).trans (h.zC j), by have := h.size; omega, h.keeps.step k (fun b hb => .inr (by have : b = N := hb; omega))⟩

/-- A variable of one disk's method: a node. -/
structure NBox (w1 w2 : World) (v0 v1 v2 v3 v4 : Value) : Prop where
  N0 : w2.cell? ⟨w1.heap.size, 0, none⟩ = some v0
  N1 : w2.cell? ⟨w1.heap.size, 1, none⟩ = some v1
  N2 : w2.cell? ⟨w1.heap.size, 2, none⟩ = some v2
  N3 : w2.cell? ⟨w1.heap.size, 3, none⟩ = some v3
  N4 : w2.cell? ⟨w1.heap.size, 4, none⟩ = some v4
  zN : ∀ j, w2.frozen? ⟨w1.heap.size, j, none⟩ = false

theorem nbox {w1 w2 : World} {v0 v1 v2 v3 v4 : Value} {T : TypeId} (hk : Keeps NoB (w1.alloc (.cells #[v0, v1, v2, v3, v4] T)) w2) : NBox w1 w2 v0 v1 v2 v3 v4 :=
  ⟨boxed hk 0 _ rfl, boxed hk 1 _ rfl, boxed hk 2 _ rfl, boxed hk 3 _ rfl, boxed hk 4 _ rfl, boxedz hk⟩

/-- Blocks of S, but for three variables. -/
def But3 (S : Nat → Prop) (w : World) (N : Nat) : Nat → Prop := fun b => But2 S w b ∧ b ≠ N

end

end Go.Proofs.YtfomkkoecelakaaDoor

/-
  Small laws of the reference's walks.
-/
set_option maxRecDepth 100000
namespace Go.Proofs.YtfomkkoecelakaaDoor
open Go.RowKit

theorem wrap_make {u s : Nat} (h : (u : Int) ≤ 9007199254740992) (h1 : s ≤ 4194304) : wrap64 ((u : Int) + (s : Int)) = (u : Int) + (s : Int) := IntWalk.wrap64_in _ (by omega)
theorem wrap_wrap64x (n : Int) : IntKind.i64.wrap (wrap64 n) = wrap64 n := by rw [IntKind.wrap_i64]; unfold wrap64; omega

end Go.Proofs.YtfomkkoecelakaaDoor

/-
  Contracts of the reference for layer 4, the eighth part: Enter.
-/
namespace Go.Proofs.YtfomkkoecelakaaDoor
open Go.RowKit
set_option maxRecDepth 100000
set_option maxHeartbeats 2000000

theorem NBox.on {w1 w2 w3 : World} {v0 v1 v2 v3 v4 : Value} (h : NBox w1 w2 v0 v1 v2 v3 v4) (k : Keeps NoB w2 w3) : NBox w1 w3 v0 v1 v2 v3 v4 := by
  have l := lt_of_cell h.N0
  exact ⟨(k.cell (p := ⟨w1.heap.size, 0, none⟩) l (fun h => h)).trans h.N0, (k.cell (p := ⟨w1.heap.size, 1, none⟩) l (fun h => h)).trans h.N1, (k.cell (p := ⟨w1.heap.size, 2, none⟩) l (fun h => h)).trans h.N2, (k.cell (p := ⟨w1.heap.size, 3, none⟩) l (fun h => h)).trans h.N3,
    (k.cell (p := ⟨w1.heap.size, 4, none⟩) l (fun h => h)).trans h.N4, fun j => (k.frozen (p := ⟨w1.heap.size, j, none⟩) l (fun h => h)).trans (h.zN j)⟩

theorem wrap_wrap64 (n : Int) : IntKind.i64.wrap (wrap64 n) = wrap64 n := by rw [IntKind.wrap_i64]; unfold wrap64; omega

theorem room_cases {x r u s : Int} (h : x = if r - u < s then 20 else 0) : (r < u + s ∧ x = 20) ∨ (¬ r < u + s ∧ x = 0) := by
  by_cases c : r - u < s
  · rw [if_pos c] at h; exact .inl ⟨by omega, h⟩
  · rw [if_neg c] at h; exact .inr ⟨by omega, h⟩

section
variable {S : Nat → Prop} {w : World} {p : Option Addr} {c : Nat} {d : Nds} {room : Int}

end

end Go.Proofs.YtfomkkoecelakaaDoor

/-
  Contracts of the reference for layer 4, the ninth part: Move, where it fails, or has nothing to do.
-/
namespace Go.Proofs.YtfomkkoecelakaaDoor
open Go.RowKit
set_option maxRecDepth 100000
set_option maxHeartbeats 2000000

section
variable {S : Nat → Prop} {w : World} {p : Option Addr} {c : Nat} {d : Nds} {room : Int}

/-- The rows that Move reads. -/
theorem move_rows (h : RefAt S w p c d) {f t k : Int} (hf : has d f) (ht : has d t) (hk : has d k) :
    ∃ (F T K : Nat) (g off : Nat) (q q' : Option Addr) (m m' : Nat), f = (F : Int) ∧ t = (T : Int) ∧ k = (K : Int) ∧ F < d.length ∧ T < d.length ∧ K < d.length ∧ p = some ⟨g, off, none⟩ ∧ S g ∧
    SlAt encEnt S w q m (nd d (F : Int)).ents ∧ SlAt encEnt S w q' m' (nd d (T : Int)).ents ∧ g < w.heap.size ∧
    (∀ w1, Keeps NoB w w1 → (w1.cell? ⟨g, off + F * 5, none⟩ = some (.int .i64 (nd d F).kind) ∧ w1.cell? ⟨g, off + F * 5 + 1, none⟩ = some (.int .i64 (nd d F).mode) ∧ w1.cell? ⟨g, off + F * 5 + 2, none⟩ = some (.int .i64 (nd d F).holds) ∧
      w1.cell? ⟨g, off + F * 5 + 3, none⟩ = some (.string (nd d F).data) ∧ w1.cell? ⟨g, off + F * 5 + 4, none⟩ = some (.slice q (nd d F).ents.length m) ∧ g < w1.heap.size ∧ w1.cell? ⟨g, off + K * 5, none⟩ = some (.int .i64 (nd d K).kind) ∧
      w1.cell? ⟨g, off + T * 5 + 4, none⟩ = some (.slice q' (nd d T).ents.length m'))) := by
  obtain ⟨F, rfl, hF⟩ := has_nat hf
  obtain ⟨T, rfl, hT⟩ := has_nat ht
  obtain ⟨K, rfl, hK⟩ := has_nat hk
  obtain ⟨g, off, q, m, rfl, hSg, hrow⟩ := h.rowAt hF
  obtain ⟨g', off', q', m', hp', _, hrow'⟩ := h.rowAt hT
  cases hp'
  obtain ⟨g'', off'', q'', m'', hp'', _, hrow''⟩ := h.rowAt hK
  cases hp''
  refine ⟨F, T, K, g, off, q, q', m, m', rfl, rfl, rfl, hF, hT, hK, rfl, hSg, hrow.sl, hrow'.sl, hrow.lt, fun w1 hk1 => ?_⟩
  exact ⟨(hrow.keepN hk1).c0, (hrow.keepN hk1).c1, (hrow.keepN hk1).c2, (hrow.keepN hk1).c3, (hrow.keepN hk1).c4, (hrow.keepN hk1).lt, (hrow''.keepN hk1).c0, (hrow'.keepN hk1).c4⟩

end

end Go.Proofs.YtfomkkoecelakaaDoor

/-
  The reference's Move: its variables in memory, and the facts of its two puts.
-/
namespace Go.Proofs.YtfomkkoecelakaaDoor
open Go.RowKit
set_option maxRecDepth 100000
set_option maxHeartbeats 1000000

theorem RBox.keep {F : Nat → Prop} {w w1 w2 : World} {p : Option Addr} {n c : Nat} {room : Int} (h : RBox w w1 p n c room) (k : Keeps F w1 w2) (hA : ¬ F w.heap.size) (hC : ¬ F (w.heap.size + 1)) (hF : ∀ b, F b → w.heap.size ≤ b) : RBox w w2 p n c room := by
  have l1 := lt_of_cell h.A0
  have l2 := lt_of_cell h.C0
  have := k.size
  exact ⟨(k.cell (p := ⟨w.heap.size, 0, none⟩) l1 hA).trans h.A0, (k.cell (p := ⟨w.heap.size, 1, none⟩) l1 hA).trans h.A1, (k.cell (p := ⟨w.heap.size + 1, 0, none⟩) l2 hC).trans h.C0, (k.cell (p := ⟨w.heap.size + 1, 1, none⟩) l2 hC).trans h.C1,
    fun j => (k.frozen (p := ⟨w.heap.size, j, none⟩) l1 hA).trans (h.zA j), fun j => (k.frozen (p := ⟨w.heap.size + 1, j, none⟩) l2 hC).trans (h.zC j), by have := h.size; omega, h.keeps.step k (fun b hb => .inr (hF b hb))⟩

/-- The disk's variable stored. -/
theorem RBox.setA {w w1 : World} {p p' : Option Addr} {n n' c c' : Nat} {room room' : Int} (h : RBox w w1 p n c room) : RBox w ((w1.setCell ⟨w.heap.size, 0, none⟩ (.slice p' n' c')).setCell ⟨w.heap.size, 1, none⟩ (.int .i64 room')) p' n' c' room' := by
  have k : Keeps (fun b => b = w.heap.size) w1 ((w1.setCell ⟨w.heap.size, 0, none⟩ (.slice p' n' c')).setCell ⟨w.heap.size, 1, none⟩ (.int .i64 room')) := (keeps_set w1 ⟨w.heap.size, 0, none⟩ _).trans (keeps_set _ ⟨w.heap.size, 1, none⟩ _)
  have l2 := lt_of_cell h.C0
  have hC : ¬ w.heap.size + 1 = w.heap.size := by omega
  have := k.size
  refine ⟨?_, ?_, (k.cell (p := ⟨w.heap.size + 1, 0, none⟩) l2 hC).trans h.C0, (k.cell (p := ⟨w.heap.size + 1, 1, none⟩) l2 hC).trans h.C1, fun j => ?_, fun j => (k.frozen (p := ⟨w.heap.size + 1, j, none⟩) l2 hC).trans (h.zC j), by have := h.size; omega, h.keeps.step k (fun b hb => .inr (by omega))⟩
  · have h1 := cell_set (g := w.heap.size) (k := 0) (u := .slice p' n' c') (j := 0) h.A0
    rw [if_pos rfl] at h1
    have h2 := cell_set (g := w.heap.size) (k := 1) (u := .int .i64 room') (j := 0) h1
    rw [if_neg (by decide)] at h2
    exact h2
  · have h1 := cell_set (g := w.heap.size) (k := 0) (u := .slice p' n' c') (j := 1) h.A1
    rw [if_neg (by decide)] at h1
    have h2 := cell_set (g := w.heap.size) (k := 1) (u := .int .i64 room') (j := 1) h1
    rw [if_pos rfl] at h2
    exact h2
  · exact (frozen_set _ _ _ _).trans ((frozen_set _ _ _ _).trans (h.zA j))

theorem NBox.keep {F : Nat → Prop} {w1 w2 w3 : World} {v0 v1 v2 v3 v4 : Value} (h : NBox w1 w2 v0 v1 v2 v3 v4) (k : Keeps F w2 w3) (hN : ¬ F w1.heap.size) : NBox w1 w3 v0 v1 v2 v3 v4 := by
  have l := lt_of_cell h.N0
  exact ⟨(k.cell (p := ⟨w1.heap.size, 0, none⟩) l hN).trans h.N0, (k.cell (p := ⟨w1.heap.size, 1, none⟩) l hN).trans h.N1, (k.cell (p := ⟨w1.heap.size, 2, none⟩) l hN).trans h.N2, (k.cell (p := ⟨w1.heap.size, 3, none⟩) l hN).trans h.N3,
    (k.cell (p := ⟨w1.heap.size, 4, none⟩) l hN).trans h.N4, fun j => (k.frozen (p := ⟨w1.heap.size, j, none⟩) l hN).trans (h.zN j)⟩

theorem NBox.set4 {w1 w2 : World} {v0 v1 v2 v3 v4 : Value} (h : NBox w1 w2 v0 v1 v2 v3 v4) (v : Value) : NBox w1 (w2.setCell ⟨w1.heap.size, 4, none⟩ v) v0 v1 v2 v3 v := by
  have h0 := cell_set (g := w1.heap.size) (k := 4) (u := v) (j := 0) h.N0
  have h1 := cell_set (g := w1.heap.size) (k := 4) (u := v) (j := 1) h.N1
  have h2 := cell_set (g := w1.heap.size) (k := 4) (u := v) (j := 2) h.N2
  have h3 := cell_set (g := w1.heap.size) (k := 4) (u := v) (j := 3) h.N3
  have h4 := cell_set (g := w1.heap.size) (k := 4) (u := v) (j := 4) h.N4
  rw [if_neg (by decide)] at h0 h1 h2 h3
  rw [if_pos rfl] at h4
  exact ⟨h0, h1, h2, h3, h4, fun j => (frozen_set _ _ _ _).trans (h.zN j)⟩

theorem NBox.set5 {w1 w2 : World} {v0 v1 v2 v3 v4 : Value} (h : NBox w1 w2 v0 v1 v2 v3 v4) (u0 u1 u2 u3 u4 : Value) : NBox w1 (Go.Proofs.YtfomkkoecelakaaDoor.set5 w2 w1.heap.size 0 u0 u1 u2 u3 u4) u0 u1 u2 u3 u4 := by
  have step : ∀ (W : World) (i : Nat) (u : Value) (x0 x1 x2 x3 x4 : Value), NBox w1 W x0 x1 x2 x3 x4 → NBox w1 (W.setCell ⟨w1.heap.size, i, none⟩ u) (if 0 = i then u else x0) (if 1 = i then u else x1) (if 2 = i then u else x2) (if 3 = i then u else x3) (if 4 = i then u else x4) := fun W i u x0 x1 x2 x3 x4 hW => by
    have e : ∀ j x, W.cell? ⟨w1.heap.size, j, none⟩ = some x → (W.setCell ⟨w1.heap.size, i, none⟩ u).cell? ⟨w1.heap.size, j, none⟩ = some (if j = i then u else x) := fun j x hx => by
      have := cell_set (g := w1.heap.size) (k := i) (u := u) (j := j) hx
      rw [this]
    exact ⟨e 0 _ hW.N0, e 1 _ hW.N1, e 2 _ hW.N2, e 3 _ hW.N3, e 4 _ hW.N4, fun j => (frozen_set _ _ _ _).trans (hW.zN j)⟩
  unfold Go.Proofs.YtfomkkoecelakaaDoor.set5
  have s0 := step _ 0 u0 _ _ _ _ _ h
  have s1 := step _ 1 u1 _ _ _ _ _ s0
  have s2 := step _ 2 u2 _ _ _ _ _ s1
  have s3 := step _ 3 u3 _ _ _ _ _ s2
  have s4 := step _ 4 u4 _ _ _ _ _ s3
  simpa using s4

section
variable {S : Nat → Prop} {w w2 : World} {p : Option Addr} {c : Nat} {d : Nds} {room : Int} {N : Nat}

theorem RefAt.but3 (h : RefAt S w p c d) (hk : Keeps NoB w w2) (hN : w.heap.size + 2 ≤ N) : RefAt (But3 S w N) w2 p c d := h.keepS hk (fun _ _ _ h => h) (fun g hg hl => ⟨⟨hg, by omega, by omega⟩, by omega⟩)
theorem but3_new (hS : ∀ g, w.heap.size ≤ g → S g) (hN : w.heap.size + 2 ≤ N) (hsz : N < w2.heap.size) : ∀ g, w2.heap.size ≤ g → But3 S w N g := fun g hg => ⟨⟨hS g (by omega), by omega, by omega⟩, by omega⟩
theorem RefAt.of3 (h : RefAt (But3 S w N) w2 p c d) : RefAt (But2 S w) w2 p c d := h.keepS (Keeps.refl NoB _) (fun _ _ _ h => h) (fun _ hg _ => hg.1)
/-- A variable of the method stored: the disk stays. -/
theorem RefAt.var {w3 : World} {F : Nat → Prop} (h : RefAt (But3 S w N) w2 p c d) (k : Keeps F w2 w3) (hF : ∀ b, F b → b = w.heap.size ∨ b = w.heap.size + 1 ∨ b = N) : RefAt (But3 S w N) w3 p c d :=
  h.keepS k (fun b hb _ e => by rcases hF b e with e | e | e <;> first | exact hb.1.2.1 e | exact hb.1.2.2 e | exact hb.2 e) (fun _ hg _ => hg)
theorem SlAt.var3 {α : Type} {E : Enc α} {q : Option Addr} {m : Nat} {l : List α} {w3 : World} {F : Nat → Prop} (h : SlAt E (But3 S w N) w2 q m l) (k : Keeps F w2 w3) (hF : ∀ b, F b → b = w.heap.size ∨ b = w.heap.size + 1 ∨ b = N) : SlAt E (But3 S w N) w3 q m l :=
  h.keepS k (fun b hb _ e => by rcases hF b e with e | e | e <;> first | exact hb.1.2.1 e | exact hb.1.2.2 e | exact hb.2 e) (fun _ hg _ => hg)

end

end Go.Proofs.YtfomkkoecelakaaDoor

/-
  Contracts of the reference for layer 4: New, Make.
-/
namespace Go.Proofs.YtfomkkoecelakaaDoor
open Go.RowKit
set_option maxRecDepth 100000
set_option maxHeartbeats 2000000

theorem results_cell_tmp2 {fn : Func} {p u t : Tmp} {ty : TypeId} (h : fn.results = #[.cell p ty, .tmp u, .tmp t]) (tmps : Array Value) (P : Program) (w : World) :
    (results fn tmps).run P w =
      ((asAddr (tmps.getD p undef)).run P w).andThen fun a w₁ => ((loadVar ty a).run P w₁).andThen fun v w₂ => .ok (.tuple #[v, tmps.getD u undef, tmps.getD t undef]) w₂ := by
  simp only [results, h]
  simp [Sem.run_bind, Result.andThen]

/-- What Make leaves: a disk, a number, an error. -/
def MTo (S : Nat → Prop) (w : World) (d' : Nds) (room id err : Int) (e : Ending) (w' : World) : Prop :=
  ∃ p' c', e = .returned (.tuple #[refV p' c' d' room, .int .i64 id, .int .i64 err]) ∧ RefAt S w' p' c' d' ∧ Keeps NoB w w'

section
variable {S : Nat → Prop} {w : World} {p : Option Addr} {c : Nat} {d : Nds} {room : Int}

theorem mto_store {w1 : World} {p' : Option Addr} {c' : Nat} {d' : Nds} {id err : Int} (h : RefAt (But2 S w) w1 p' c' d') (k : Keeps NoB w w1) (v0 v1 : Value) :
    MTo S w d' room id err (.returned (.tuple #[refV p' c' d' room, .int .i64 id, .int .i64 err])) ((w1.setCell ⟨w.heap.size + 1, 0, none⟩ v0).setCell ⟨w.heap.size + 1, 1, none⟩ v1) := by
  obtain ⟨p2, c2, e, h1, h2⟩ := rto_store (room := room) (err := err) h k v0 v1
  cases e
  exact ⟨_, _, rfl, h1, h2⟩

end

end Go.Proofs.YtfomkkoecelakaaDoor
