/-
  Lemmas on memory that speak of no program: what a call keeps (Keeps), slices that are read (Sl) and slices that are owned (Own), and what append and copy do to them.
-/
import Derived.WalkKit
import Derived.WalkSpells
import Derived.WalkLawsBesides
import Derived.Lib.Hide
import Derived.Lib.Bytealg
import Derived.Lib.AppendZeros
import Derived.Lib.AppendZerosOnto
import Derived.Lib.Overlaps
import Derived.Deep.AppendSrc
import Derived.Deep.Draws
import Derived.KernelRfl
import Derived.ProofKit
import Derived.OpenShut
import Derived.ShutString
import Derived.ChangeOld
import Derived.Deep.Slices
import Derived.Deep.Fields

set_option linter.unusedSimpArgs false
set_option linter.unusedVariables false

set_option maxRecDepth 100000
namespace Go.Proofs.YtfomkkoecelakaaDoor
open Go.RowKit

/-- No block. -/
def NoB : Nat → Prop := fun _ => False

/-- From w to w' nothing has turned but the blocks of F; new blocks may have come. -/
structure Keeps (F : Nat → Prop) (w w' : World) : Prop where
  os : w'.os = w.os
  tape : w'.tape = w.tape
  output : w'.output = w.output
  size : w.heap.size ≤ w'.heap.size
  block : ∀ k, k < w.heap.size → ¬ F k → w'.heap[k]? = w.heap[k]?

theorem Keeps.refl (F : Nat → Prop) (w : World) : Keeps F w w := ⟨rfl, rfl, rfl, Nat.le_refl _, fun _ _ _ => rfl⟩

theorem Keeps.trans' {F G H : Nat → Prop} {a b c : World} (h : Keeps F a b) (k : Keeps G b c) (hF : ∀ g, g < a.heap.size → F g → H g) (hG : ∀ g, g < a.heap.size → G g → H g) : Keeps H a c :=
  ⟨k.os.trans h.os, k.tape.trans h.tape, k.output.trans h.output, Nat.le_trans h.size k.size,
   fun i hi hn => (k.block i (Nat.lt_of_lt_of_le hi h.size) (fun hg => hn (hG i hi hg))).trans (h.block i hi (fun hf => hn (hF i hi hf)))⟩

theorem Keeps.trans {F : Nat → Prop} {a b c : World} (h : Keeps F a b) (k : Keeps F b c) : Keeps F a c := h.trans' k (fun _ _ h => h) (fun _ _ h => h)

/-- A step that turns only blocks of F, or such as were not there at the beginning. -/
theorem Keeps.step {F G : Nat → Prop} {a b c : World} (h : Keeps F a b) (k : Keeps G b c) (hG : ∀ g, G g → F g ∨ a.heap.size ≤ g) : Keeps F a c :=
  h.trans' k (fun _ _ h => h) (fun g hg h => (hG g h).elim id (fun h => absurd hg (by omega)))

theorem Keeps.mono {F G : Nat → Prop} {a b : World} (h : Keeps F a b) (hFG : ∀ g, g < a.heap.size → F g → G g) : Keeps G a b :=
  ⟨h.os, h.tape, h.output, h.size, fun i hi hn => h.block i hi (fun hf => hn (hFG i hi hf))⟩

theorem Keeps.of_none {F : Nat → Prop} {a b : World} (h : Keeps NoB a b) : Keeps F a b := h.mono (fun _ _ h => h.elim)

theorem Keeps.alloc {F : Nat → Prop} {a w : World} (h : Keeps F a w) (o : Obj) : Keeps F a (w.alloc o) :=
  h.trans ⟨rfl, rfl, rfl, by simp, fun k hk _ => Below.heap_alloc _ _ _ hk⟩

theorem Keeps.drew {F : Nat → Prop} {a w : World} (h : Keeps F a w) : Keeps F a w.drew := ⟨h.os, h.tape, h.output, h.size, h.block⟩

theorem Keeps.drewN {F : Nat → Prop} {a w : World} (h : Keeps F a w) (n : Nat) : Keeps F a (w.drewN n) := ⟨h.os, h.tape, h.output, h.size, h.block⟩

theorem Keeps.setCell {F : Nat → Prop} {a w : World} (h : Keeps F a w) {p : Addr} (hp : F p.block ∨ a.heap.size ≤ p.block) (u : Value) : Keeps F a (w.setCell p u) :=
  ⟨h.os, h.tape, h.output, by have := h.size; simpa [World.setCell] using this, fun k hk hn => by
    rw [Below.heap_setCell _ _ _ _ (by rcases hp with hp | hp; · intro e; subst e; exact hn hp
                                       · omega)]; exact h.block k hk hn⟩

theorem Keeps.below {F : Nat → Prop} {B : Nat} {w w' : World} (h : Keeps F w w') (hB : B ≤ w.heap.size) (hF : ∀ g, g < B → ¬ F g) : Below B w w' :=
  ⟨h.os, h.tape, h.output, h.size, fun k hk => h.block k (by omega) (hF k hk)⟩

theorem Keeps.of_below {w w' : World} (h : Below w.heap.size w w') : Keeps NoB w w' := ⟨h.os, h.tape, h.output, h.size, fun k hk _ => h.block k hk⟩

theorem Keeps.cell {F : Nat → Prop} {w w' : World} (h : Keeps F w w') {p : Addr} (hp : p.block < w.heap.size) (hF : ¬ F p.block) : w'.cell? p = w.cell? p :=
  World.cell?_of_block (w := w) (h.block p.block hp hF)

theorem Keeps.frozen {F : Nat → Prop} {w w' : World} (h : Keeps F w w') {p : Addr} (hp : p.block < w.heap.size) (hF : ¬ F p.block) : w'.frozen? p = w.frozen? p :=
  World.frozen?_of_block (w := w) (h.block p.block hp hF)

theorem lt_of_cell {w : World} {a : Addr} {v : Value} (h : w.cell? a = some v) : a.block < w.heap.size := block_lt_of_cell h
theorem lt_of_block {w : World} {g : Nat} {o : Obj} (h : w.heap[g]? = some o) : g < w.heap.size := (Array.getElem?_eq_some_iff.1 h).1

theorem add_lit (g off j : Nat) : (⟨g, off, none⟩ : Addr).add j = ⟨g, off + j, none⟩ := by unfold Addr.add; split <;> simp_all

theorem setCell_self {w : World} {a : Addr} {v : Value} (h : w.cell? a = some v) : w.setCell a v = w := by
  obtain ⟨b, o, s⟩ := a
  have hb := lt_of_cell h
  simp only [World.cell?] at h
  cases w with
  | mk heap tape drawn os output =>
    simp only [World.setCell, World.mk.injEq, and_true]
    apply Array.ext_getElem?
    intro i
    rw [Array.getElem?_modify]
    split
    · next e =>
      subst e
      cases hh : heap[b]? with
      | none => simp [hh] at h
      | some x =>
        simp only [hh] at h
        cases x <;> simp only [Option.map_some] at h ⊢ <;> try (cases h)
        rename_i c e f
        congr 2
        cases s with
        | some _ => simp at h
        | none =>
          simp only [Option.isSome_none, Bool.false_eq_true, if_false] at h ⊢
          apply Array.ext_getElem?
          intro j
          rw [Array.getElem?_setIfInBounds]
          split
          · next e => subst e; split
                      · exact h.symm
                      · next hn => rw [Array.getElem?_eq_none (by omega)] at h; cases h
          · rfl
    · rfl

theorem heap_setCell_congr {w w1 : World} (a : Addr) (v : Value) (h : w1.heap[a.block]? = w.heap[a.block]?) : (w1.setCell a v).heap[a.block]? = (w.setCell a v).heap[a.block]? := by
  simp only [World.setCell, Array.getElem?_modify, if_true, h]

/-- The same store on both sides. -/
theorem Keeps.setCell2 {F : Nat → Prop} {w w1 : World} (h : Keeps F w w1) (a : Addr) (v : Value) : Keeps F (w.setCell a v) (w1.setCell a v) :=
  ⟨h.os, h.tape, h.output, by have := h.size; simpa [World.setCell] using this, fun k hk hn => by
    have hk' : k < w.heap.size := by simpa [World.setCell] using hk
    by_cases e : k = a.block
    · subst e; exact heap_setCell_congr a v (h.block _ hk' hn)
    · rw [Below.heap_setCell _ _ _ _ e, Below.heap_setCell _ _ _ _ e]; exact h.block k hk' hn⟩

/-- How an element lies in cells. -/
structure Enc (α : Type) where
  enc : α → List Value
  k : Nat
  pos : 0 < k
  len : ∀ x, (enc x).length = k
  one : ∀ x, ∀ v ∈ enc x, v.oneCell' = true

section
variable {α : Type} (E : Enc α)

theorem Enc.flat_len (l : List α) : (l.flatMap E.enc).length = l.length * E.k := by
  induction l with
  | nil => simp
  | cons a l ih => simp [ih, E.len, Nat.add_mul]; omega

theorem Enc.flat_one (l : List α) : ∀ v ∈ l.flatMap E.enc, v.oneCell' = true := by
  intro v hv
  obtain ⟨x, _, hx⟩ := List.mem_flatMap.1 hv
  exact E.one x v hx

theorem Enc.flat_get (l : List α) (i j : Nat) (hj : j < E.k) : (l.flatMap E.enc)[i * E.k + j]? = (l[i]?).bind fun x => (E.enc x)[j]? := by
  induction l generalizing i with
  | nil => simp
  | cons a l ih =>
    rw [List.flatMap_cons]
    cases i with
    | zero => simp only [Nat.zero_mul, Nat.zero_add]; rw [List.getElem?_append_left (by rw [E.len]; exact hj)]; rfl
    | succ i =>
      rw [List.getElem?_append_right (by rw [E.len, Nat.add_mul]; omega), E.len]
      rw [show (i + 1) * E.k + j - E.k = i * E.k + j by rw [Nat.add_mul]; omega, ih]
      rfl

theorem Enc.flat_take (l : List α) (n : Nat) : (l.take n).flatMap E.enc = (l.flatMap E.enc).take (n * E.k) := by
  induction l generalizing n with
  | nil => simp
  | cons a l ih =>
    cases n with
    | zero => simp
    | succ n =>
      rw [List.take_succ_cons, List.flatMap_cons, List.flatMap_cons, ih, List.take_append, E.len]
      rw [List.take_of_length_le (l := E.enc a) (by rw [E.len, Nat.add_mul]; omega), show (n + 1) * E.k - E.k = n * E.k by rw [Nat.add_mul]; omega]

theorem Enc.flat_drop (l : List α) (n : Nat) : (l.drop n).flatMap E.enc = (l.flatMap E.enc).drop (n * E.k) := by
  induction l generalizing n with
  | nil => simp
  | cons a l ih =>
    cases n with
    | zero => simp
    | succ n =>
      rw [List.drop_succ_cons, List.flatMap_cons, ih, List.drop_append, E.len]
      rw [List.drop_of_length_le (l := E.enc a) (by rw [E.len, Nat.add_mul]; omega), show (n + 1) * E.k - E.k = n * E.k by rw [Nat.add_mul]; omega]
      rfl

/-- What stands at a slice's place p (capacity c) in w: the elements l, in a block of S. -/
structure SlAt (S : Nat → Prop) (w : World) (p : Option Addr) (c : Nat) (l : List α) : Prop where
  cap : l.length ≤ c
  max : c ≤ maxLen
  nilc : p = none → c = 0
  spot : 0 < c → ∀ a, p = some a → a.spot = none
  cells : 0 < l.length → ∃ g off, p = some ⟨g, off, none⟩ ∧ S g ∧ g < w.heap.size ∧ ∀ j, j < l.length * E.k → w.cell? ⟨g, off + j, none⟩ = (l.flatMap E.enc)[j]?

/-- The value v is, in w, a slice of the elements l, which lie in a block of S. -/
def Sl (S : Nat → Prop) (w : World) (v : Value) (l : List α) : Prop := ∃ p c, v = .slice p l.length c ∧ SlAt E S w p c l

variable {E} {S : Nat → Prop} {w : World} {p : Option Addr} {c : Nat} {l : List α} {v : Value}

theorem Sl.nil (E : Enc α) (S : Nat → Prop) (w : World) : Sl E S w (.slice none 0 0) [] :=
  ⟨none, 0, rfl, by simp, by simp, fun _ => rfl, (fun h => by omega), (fun h => by simp at h)⟩

theorem SlAt.keep {F : Nat → Prop} {w' : World} (h : SlAt E S w p c l) (k : Keeps F w w') (hF : ∀ g, S g → g < w.heap.size → ¬ F g) : SlAt E S w' p c l :=
  ⟨h.cap, h.max, h.nilc, h.spot, fun h0 => by
    obtain ⟨g, off, rfl, hS, hg, hc⟩ := h.cells h0
    exact ⟨g, off, rfl, hS, Nat.lt_of_lt_of_le hg k.size, fun j hj => (k.cell hg (hF g hS hg)).trans (hc j hj)⟩⟩

theorem Sl.keep {F : Nat → Prop} {w' : World} (h : Sl E S w v l) (k : Keeps F w w') (hF : ∀ g, S g → g < w.heap.size → ¬ F g) : Sl E S w' v l := by
  obtain ⟨p, c, rfl, h⟩ := h
  exact ⟨p, c, rfl, h.keep k hF⟩

theorem Sl.of (h : SlAt E S w p c l) : Sl E S w (.slice p l.length c) l := ⟨p, c, rfl, h⟩
theorem Sl.at' (h : Sl E S w (.slice p l.length c) l) : SlAt E S w p c l := by
  obtain ⟨p', c', hpc, hs⟩ := h
  cases hpc
  exact hs

theorem SlAt.keepS {S' F : Nat → Prop} {w' : World} (h : SlAt E S w p c l) (k : Keeps F w w') (hF : ∀ g, S g → g < w.heap.size → ¬ F g) (hS : ∀ g, S g → g < w.heap.size → S' g) : SlAt E S' w' p c l :=
  ⟨h.cap, h.max, h.nilc, h.spot, fun h0 => by
    obtain ⟨g, off, rfl, hSg, hg, hc⟩ := h.cells h0
    exact ⟨g, off, rfl, hS g hSg hg, Nat.lt_of_lt_of_le hg k.size, fun j hj => (k.cell hg (hF g hSg hg)).trans (hc j hj)⟩⟩

theorem Sl.keepS {S' F : Nat → Prop} {w' : World} (h : Sl E S w v l) (k : Keeps F w w') (hF : ∀ g, S g → g < w.heap.size → ¬ F g) (hS : ∀ g, S g → g < w.heap.size → S' g) : Sl E S' w' v l := by
  obtain ⟨p, c, rfl, h⟩ := h
  exact ⟨p, c, rfl, h.keepS k hF hS⟩

theorem Sl.keepN {w' : World} (h : Sl E S w v l) (k : Keeps NoB w w') : Sl E S w' v l := h.keep k (fun _ _ _ h => h)
theorem SlAt.keepN {w' : World} (h : SlAt E S w p c l) (k : Keeps NoB w w') : SlAt E S w' p c l := h.keep k (fun _ _ _ h => h)

theorem Sl.mono {S' : Nat → Prop} (h : Sl E S w v l) (hS : ∀ g, S g → g < w.heap.size → S' g) : Sl E S' w v l := by
  obtain ⟨p, c, rfl, h⟩ := h
  refine ⟨p, c, rfl, h.cap, h.max, h.nilc, h.spot, fun h0 => ?_⟩
  obtain ⟨g, off, rfl, hSg, hg, hc⟩ := h.cells h0
  exact ⟨g, off, rfl, hS g hSg hg, hg, hc⟩

/-- The cells of the element at a place, each by its number. -/
theorem SlAt.at (h : SlAt E S w p c l) {i : Nat} {x : α} (hi : l[i]? = some x) :
    ∃ g off, p = some ⟨g, off, none⟩ ∧ S g ∧ g < w.heap.size ∧ ∀ j u, (E.enc x)[j]? = some u → w.cell? ⟨g, off + (i * E.k + j), none⟩ = some u := by
  obtain ⟨hil, hix⟩ := List.getElem?_eq_some_iff.1 hi
  obtain ⟨g, off, hp, hS, hg, hc⟩ := h.cells (by omega)
  refine ⟨g, off, hp, hS, hg, fun j u hu => ?_⟩
  have hj : j < E.k := by have := (List.getElem?_eq_some_iff.1 hu).1; rw [E.len] at this; exact this
  have hlt : i * E.k + j < l.length * E.k := by
    have : (i + 1) * E.k ≤ l.length * E.k := Nat.mul_le_mul_right _ hil
    rw [Nat.add_mul] at this; omega
  rw [hc _ hlt, E.flat_get l i j hj, hi]
  exact hu

/-- Where a part of a slice begins. -/
def subAt (k : Nat) (p : Option Addr) (c i : Nat) : Option Addr := if c = i then p else p.map (·.add (i * k))

/-- A part of a slice. -/
theorem SlAt.sub (h : SlAt E S w p c l) (i k : Nat) (hik : i ≤ k) (hk : k ≤ l.length) : SlAt E S w (subAt E.k p c i) (c - i) ((l.take k).drop i) := by
  have hcap := h.cap
  have hmax := h.max
  unfold subAt
  by_cases hci : c = i
  · rw [if_pos hci]
    exact ⟨by simp; omega, by omega, fun _ => by omega, (fun h0 => by omega), fun h0 => by simp at h0; omega⟩
  · rw [if_neg hci]
    cases p with
    | none => exact absurd (h.nilc rfl) (by omega)
    | some a =>
      have hsp := h.spot (by omega) a rfl
      obtain ⟨g, off, sp⟩ := a
      subst hsp
      simp only [Option.map_some, add_lit]
      refine ⟨by simp; omega, by omega, (fun h => by cases h), (fun _ a ha => by cases ha; rfl), fun h0 => ?_⟩
      obtain ⟨g', off', hp, hS, hg, hc⟩ := h.cells (by simp at h0; omega)
      cases hp
      refine ⟨g, off + i * E.k, rfl, hS, hg, fun j hj => ?_⟩
      have hkl : ((l.take k).drop i).length = k - i := by simp; omega
      rw [hkl] at hj
      rw [Nat.add_assoc, hc _ (by
        have : (k - i + i) * E.k ≤ l.length * E.k := Nat.mul_le_mul_right _ (by omega)
        rw [Nat.add_mul] at this; omega)]
      rw [E.flat_drop, E.flat_take, List.getElem?_drop, List.getElem?_take]
      rw [if_pos (by
        have : (k - i + i) * E.k ≤ k * E.k := Nat.mul_le_mul_right _ (by omega)
        rw [Nat.add_mul] at this; omega)]

/-- The value v owns, in w, a row of the elements l: nil, or the head of a block of S, with room up to its capacity. -/
def Own (E : Enc α) (e : TypeId) (S : Nat → Prop) (w : World) (v : Value) (l : List α) : Prop :=
  w.ownsRow 0 e E.k v l.length (l.flatMap E.enc) ∧ ∀ g, v.ownBlock = some g → S g

theorem Own.nil (E : Enc α) (e : TypeId) (S : Nat → Prop) (w : World) : Own E e S w (.slice none 0 0) [] :=
  ⟨by simpa using World.ownsRow_nil w 0 e E.k, fun g h => by simp [Value.ownBlock] at h⟩

variable {e : TypeId}

theorem Own.lt (h : Own E e S w v l) : ∀ g, v.ownBlock = some g → g < w.heap.size := fun g hg => (h.1.lt g hg).2

theorem Own.keep {F : Nat → Prop} {w' : World} (h : Own E e S w v l) (k : Keeps F w w') (hF : ∀ g, v.ownBlock = some g → ¬ F g) : Own E e S w' v l := by
  refine ⟨⟨h.1.1, ?_⟩, h.2⟩
  rcases h.1.2 with hn | ⟨g, cap, cur, hv, hg, hh, r⟩
  · exact .inl hn
  · subst hv
    exact .inr ⟨g, cap, cur, rfl, hg, (k.block g (lt_of_block hh) (hF g rfl)).trans hh, r⟩

theorem Own.mono {S' : Nat → Prop} (h : Own E e S w v l) (hS : ∀ g, v.ownBlock = some g → S g → S' g) : Own E e S' w v l :=
  ⟨h.1, fun g hg => hS g hg (h.2 g hg)⟩

/-- An owned row is a slice that can be read. -/
theorem Own.sl (h : Own E e S w v l) : Sl E S w v l := by
  rcases h.1.2 with ⟨rfl, hn⟩ | ⟨g, cap, cur, rfl, _, hg, hcap, hmax, hsz, htk⟩
  · have : l = [] := List.eq_nil_of_length_eq_zero hn
    subst this
    exact Sl.nil E S w
  · refine ⟨_, cap, rfl, hcap, hmax, (fun h => by cases h), (fun _ a ha => by cases ha; rfl), fun _ => ⟨g, 0, rfl, h.2 g rfl, lt_of_block hg, fun j hj => ?_⟩⟩
    rw [cell_of_row w g _ cur e (0, 0) hg, ← htk, List.getElem?_take, if_pos hj, Nat.zero_add]
    simp

/-- The two ways an owned row may be. -/
theorem Own.cases (h : Own E e S w v l) : (v = .slice none 0 0 ∧ l = []) ∨
    ∃ g cap cur, v = .slice (some ⟨g, 0, none⟩) l.length cap ∧ S g ∧ w.heap[g]? = some (.cells cur e (0, 0)) ∧ l.length ≤ cap ∧ cap ≤ maxLen ∧ cur.size = cap * E.k ∧ cur.toList.take (l.length * E.k) = l.flatMap E.enc := by
  rcases h.1.2 with ⟨rfl, hn⟩ | ⟨g, cap, cur, rfl, _, hg, hcap, hmax, hsz, htk⟩
  · exact .inl ⟨rfl, List.eq_nil_of_length_eq_zero hn⟩
  · exact .inr ⟨g, cap, cur, rfl, h.2 g rfl, hg, hcap, hmax, hsz, htk⟩

theorem Own.row (h : Own E e S w v l) (h0 : 0 < l.length) :
    ∃ g cap cur, v = .slice (some ⟨g, 0, none⟩) l.length cap ∧ S g ∧ w.heap[g]? = some (.cells cur e (0, 0)) ∧ l.length ≤ cap ∧ cap ≤ maxLen ∧ cur.size = cap * E.k ∧ cur.toList.take (l.length * E.k) = l.flatMap E.enc := by
  rcases h.cases with ⟨_, rfl⟩ | h
  · simp at h0
  · exact h

theorem Own.at (h : Own E e S w (.slice p l.length c) l) : SlAt E S w p c l := by
  obtain ⟨p', c', hpc, hs⟩ := h.sl
  cases hpc
  exact hs

theorem Own.mk {g cap : Nat} {cur : Array Value} (hS : S g) (hg : w.heap[g]? = some (.cells cur e (0, 0))) (hcap : l.length ≤ cap) (hmax : cap ≤ maxLen) (hsz : cur.size = cap * E.k)
    (htk : cur.toList.take (l.length * E.k) = l.flatMap E.enc) : Own E e S w (.slice (some ⟨g, 0, none⟩) l.length cap) l :=
  ⟨⟨E.flat_len l, .inr ⟨g, cap, cur, rfl, Nat.zero_le _, hg, hcap, hmax, hsz, htk⟩⟩, fun g' h => by simp [Value.ownBlock] at h; subst h; exact hS⟩

end

/-- A string in a cell; a number in a cell. -/
def encStr : Enc ByteArray where
  enc := fun s => [.string s]
  k := 1
  pos := by decide
  len := fun _ => rfl
  one := fun x v hv => by simp at hv; subst hv; rfl
def encInt : Enc Int where
  enc := fun n => [.int .i64 n]
  k := 1
  pos := by decide
  len := fun _ => rfl
  one := fun x v hv => by simp at hv; subst hv; rfl

theorem SlAt.str {S : Nat → Prop} {w : World} {p : Option Addr} {c : Nat} {l : List ByteArray} (h : SlAt encStr S w p c l) {i : Nat} {x : ByteArray} (hi : l[i]? = some x) :
    ∃ g off, p = some ⟨g, off, none⟩ ∧ S g ∧ g < w.heap.size ∧ w.cell? ⟨g, off + i, none⟩ = some (.string x) := by
  obtain ⟨g, off, hp, hS, hg, hc⟩ := h.at hi
  refine ⟨g, off, hp, hS, hg, ?_⟩
  have := hc 0 _ rfl
  rwa [Nat.add_zero, show encStr.k = 1 from rfl, Nat.mul_one] at this
theorem SlAt.num {S : Nat → Prop} {w : World} {p : Option Addr} {c : Nat} {l : List Int} (h : SlAt encInt S w p c l) {i : Nat} {x : Int} (hi : l[i]? = some x) :
    ∃ g off, p = some ⟨g, off, none⟩ ∧ S g ∧ g < w.heap.size ∧ w.cell? ⟨g, off + i, none⟩ = some (.int .i64 x) := by
  obtain ⟨g, off, hp, hS, hg, hc⟩ := h.at hi
  refine ⟨g, off, hp, hS, hg, ?_⟩
  have := hc 0 _ rfl
  rwa [Nat.add_zero, show encInt.k = 1 from rfl, Nat.mul_one] at this

/-- What a type's row of the table says of an element's type. -/
structure ElemT {α : Type} (P : Program) (E : Enc α) (t e : TypeId) (z : α) (bytes : Nat) : Prop where
  under : P.underlying t = some (.slice e)
  info : ∃ i : TypeInfo, P.info? e = some i ∧ i.size = E.k ∧ i.bytes = bytes ∧ ∃ zv, i.zero = some zv ∧ zv.cells.toList = E.enc z

section
variable {α : Type} {E : Enc α} {P : Program} {t e : TypeId} {z : α} {bytes : Nat} {S : Nat → Prop} {w : World}

theorem zeroCells_flat (zc : Array Value) (n : Nat) (hz : zc.toList = E.enc z) : (Builtin.zeroCells zc n).toList = (List.replicate n z).flatMap E.enc := by
  have hs : zc.size = E.k := by rw [← Array.length_toList, hz, E.len]
  apply List.ext_getElem?
  intro j
  have hk := E.pos
  by_cases hj : j < n * E.k
  · have hd := Nat.div_add_mod j E.k
    have hm := Nat.mod_lt j hk
    have hq : j / E.k < n := Nat.div_lt_of_lt_mul (by rw [Nat.mul_comm]; exact hj)
    have e1 : (List.replicate n z).flatMap E.enc = (List.replicate n z).flatMap E.enc := rfl
    rw [show j = (j / E.k) * E.k + j % E.k by rw [Nat.mul_comm]; omega, E.flat_get _ _ _ hm]
    simp only [List.getElem?_replicate, hq, if_true, Option.bind_some]
    simp only [Builtin.zeroCells, Array.toList_map, Array.toList_range, List.getElem?_map, hs]
    rw [List.getElem?_range (by rw [Nat.mul_comm]; omega)]
    simp only [Option.map_some]
    have hmm : (j / E.k * E.k + j % E.k) % E.k = j % E.k := by rw [Nat.mul_comm, Nat.mul_add_mod]; exact Nat.mod_eq_of_lt hm
    rw [hmm, ← hz, Array.getElem?_toList, getElem!_pos zc _ (by rw [hs]; exact hm), Array.getElem?_eq_getElem (by rw [hs]; exact hm)]
  · rw [List.getElem?_eq_none (by simp [Builtin.zeroCells, hs]; omega), List.getElem?_eq_none (by rw [E.flat_len]; simp; omega)]

/-- A row that append or make has just laid. -/
theorem own_fresh (l spare : List α) (hS : S w.heap.size) (hmax : l.length + spare.length ≤ maxLen) (cs : Array Value) (hcs : cs.toList = (l ++ spare).flatMap E.enc) :
    Own E e S (w.alloc (.cells cs e)) (.slice (some ⟨w.heap.size, 0, none⟩) l.length (l.length + spare.length)) l := by
  refine Own.mk (cur := cs) hS (heap_alloc_new w _) (by omega) hmax ?_ ?_
  · rw [← Array.length_toList, hcs, E.flat_len]; simp
  · rw [hcs, ← E.flat_take]; simp

/-- A slice that a literal has just laid. -/
theorem own_lit (l : List α) (cs : Array Value) (hcs : cs.toList = l.flatMap E.enc) (n : Nat) (hn : n = l.length) (hS : S w.heap.size) (hm : n ≤ maxLen) :
    Own E e S (w.alloc (.cells cs e)) (.slice (some ⟨w.heap.size, 0, none⟩) n n) l := by
  subst hn
  have := own_fresh (E := E) (e := e) (S := S) (w := w) l [] hS (by simpa using hm) cs (by simpa using hcs)
  simpa using this

/-- append(v, x...): v owned, x read. -/
theorem run_append (T : ElemT P E t e z bytes) (ty : TypeId) {v x : Value} {l m : List α} {S2 : Nat → Prop} (ho : Own E e S w v l) (hx : Sl E S2 w x m)
    (hS : S w.heap.size) (h63 : l.length + m.length ≤ maxLen) (hb : (l.length + m.length) * bytes ≤ 140737488355328) :
    ∃ v' w', (Builtin.append_ #[t, t] ty #[v, x]).run P w = .ok v' w' ∧ Own E e S w' v' (l ++ m) ∧ Keeps (fun g => v.ownBlock = some g) w w' ∧
      (∀ g, v'.ownBlock = some g → v.ownBlock = some g ∨ w.heap.size ≤ g) := by
  obtain ⟨i, hi, hik, hib, zv, hz, hzc⟩ := T.info
  obtain ⟨p, c, rfl, hm⟩ := hx
  have h63' : ((l.length + m.length : Nat) : Int) ≤ 9223372036854775807 := by simp only [maxLen] at h63; omega
  have hKr : ∀ cs : Array Value, Keeps (fun g => v.ownBlock = some g) w (w.drew.alloc (.cells cs e)) := fun cs => ((Keeps.refl _ w).drew).alloc _
  -- the source's cells, at once and behind a draw
  have hsrc : ∀ w', (∀ a, w'.cell? a = w.cell? a) → (Builtin.firstCells i.size m.length (.slice p m.length c)).run P w' = .ok (m.flatMap E.enc).toArray w' := by
    intro w' hw
    by_cases h0 : m.length = 0
    · have : m = [] := List.eq_nil_of_length_eq_zero h0
      subst this
      cases p with
      | none => exact run_firstCells_none _ _ _ _ _
      | some a => exact run_firstCells_some w' i.size 0 a 0 c [] (by simp) (fun j v h => by simp at h)
    · obtain ⟨g, off, rfl, _, hg, hc⟩ := hm.cells (by omega)
      refine run_firstCells_some w' i.size m.length _ _ _ _ (by rw [E.flat_len, hik]) (fun j u hu => ?_)
      rw [add_lit, hw, hc j (by have := (List.getElem?_eq_some_iff.1 hu).1; rw [E.flat_len] at this; exact this)]
      exact hu
  have hSrc : Src P i.size t (.slice p m.length c) m.length (m.flatMap E.enc) w :=
    ⟨.inl ⟨e, T.under⟩, fun _ => rfl, hsrc w (fun _ => rfl), hsrc w.drew (fun _ => rfl), by rw [E.flat_len, hik], E.flat_one m⟩
  have hgrow : ∀ base sLen sCap, l.length = sLen → sCap < sLen + m.length →
      (Builtin.firstCells i.size sLen (.slice base sLen sCap)).run P w.drew = .ok (l.flatMap E.enc).toArray w.drew →
      ∃ v' w', (Builtin.append_ #[t, t] ty #[.slice base sLen sCap, .slice p m.length c]).run P w = .ok v' w' ∧ Own E e S w' v' (l ++ m) ∧ Keeps (fun g => v.ownBlock = some g) w w' ∧
        (∀ g, v'.ownBlock = some g → v.ownBlock = some g ∨ w.heap.size ≤ g) := by
    intro base sLen sCap hl hlt hold
    subst hl
    have hr := run_append_grow_src (P := P) w t t ty e i zv T.under hi hz base l.length sCap (l.flatMap E.enc) hold _ m.length _ hSrc hlt h63' (growslice_fits hlt (by rw [hib]; exact hb))
    have hge := grownCap_ge w (l.length + m.length) sCap e
    have hle := grownCap_le_maxLen w (l.length + m.length) sCap e h63
    refine ⟨_, _, hr, ?_, hKr _, fun g hg => by simp [Value.ownBlock] at hg; right; omega⟩
    have hfr := own_fresh (E := E) (e := e) (S := S) (w := w.drew) (l ++ m) (List.replicate (grownCap w (l.length + m.length) sCap e - (l.length + m.length)) z) hS
      (by simp; omega) ((l.flatMap E.enc ++ m.flatMap E.enc).toArray ++ Builtin.zeroCells zv.cells (grownCap w (l.length + m.length) sCap e - (l.length + m.length)))
      (by simp [zeroCells_flat (E := E) zv.cells _ hzc])
    rw [show (l ++ m).length + (List.replicate (grownCap w (l.length + m.length) sCap e - (l.length + m.length)) z).length = grownCap w (l.length + m.length) sCap e by simp; omega] at hfr
    rw [show (l ++ m).length = l.length + m.length by simp] at hfr
    exact hfr
  rcases ho.cases with ⟨rfl, rfl⟩ | ⟨g, cap, cur, rfl, hSg, hg, hcap, hmax, hsz, htk⟩
  · by_cases h0 : m.length = 0
    · have : m = [] := List.eq_nil_of_length_eq_zero h0
      subst this
      refine ⟨.slice none 0 0, w, ?_, Own.nil E e S w, Keeps.refl _ w, fun g hg => .inl hg⟩
      have := hsrc w (fun _ => rfl)
      simp only [List.length_nil] at this ⊢
      simp [Builtin.append_, run_underlying T.under, sizeOf, typeInfo, hi, Builtin.lenOf, this]
    · exact hgrow none 0 0 rfl (by simp; omega) (run_firstCells_none _ _ _ _ _)
  · by_cases hroom : l.length + m.length ≤ cap
    · have hr := run_append_room_src (P := P) w t t ty e i T.under hi g 0 l.length cap _ m.length (m.flatMap E.enc) hSrc hroom
        (fun j hj => by
          rw [E.flat_len] at hj
          have : (l.length + m.length) * E.k ≤ cap * E.k := Nat.mul_le_mul_right _ hroom
          rw [Nat.add_mul] at this
          rw [cell_of_row w g _ cur e (0, 0) hg, Array.getElem?_eq_getElem (by rw [hik, hsz]; omega)]; rfl)
        (fun j _ => frozen_of_row w g _ cur e hg)
      have hfit : l.length * E.k + (m.flatMap E.enc).length ≤ cur.size := by
        have : (l.length + m.length) * E.k ≤ cap * E.k := Nat.mul_le_mul_right _ hroom
        rw [Nat.add_mul] at this; rw [E.flat_len, hsz]; omega
      have hst1 := run_storeCells_at P g (l.length * E.k) e (m.flatMap E.enc) 0 cur w hg (by simpa using hfit) (E.flat_one m)
      have hst2 := run_storeCells_cells (P := P) g (l.length * E.k) (m.flatMap E.enc) 0 w
        (fun j hj => by rw [cell_of_row w g _ cur e (0, 0) hg, Array.getElem?_eq_getElem (by omega)]; rfl) (fun j _ => frozen_of_row w g _ cur e hg) (E.flat_one m)
      have hw : w.setCells g (0 + l.length * i.size) (m.flatMap E.enc) = w.setRow g (cur.toList.take (l.length * E.k) ++ m.flatMap E.enc ++ cur.toList.drop (l.length * E.k + (m.flatMap E.enc).length)).toArray := by
        rw [hik, Nat.zero_add]
        rw [hst2] at hst1
        simp only [Nat.add_zero] at hst1
        injection hst1
      rw [hw] at hr
      refine ⟨_, _, hr, ?_, ⟨rfl, rfl, rfl, by simp, fun k _ hk => setRow_other w g k _ (fun e => hk (by simp [Value.ownBlock, e]))⟩, fun g' hg' => .inl hg'⟩
      rw [show l.length + m.length = (l ++ m).length by simp]
      refine Own.mk hSg (setRow_heap w g cur _ e _ hg) (by simpa using hroom) hmax ?_ ?_
      · have hL : cur.toList.length = cap * E.k := by rw [Array.length_toList]; exact hsz
        rw [List.size_toArray, List.length_append, List.length_append, List.length_take, List.length_drop]; omega
      · rw [htk, ← E.flat_len, List.flatMap_append]
        simp only [List.append_assoc]
        rw [← List.append_assoc]
        exact List.take_left
    · refine hgrow _ _ _ rfl (by omega) (run_firstCells_some w.drew i.size l.length ⟨g, 0, none⟩ l.length cap _ (by rw [E.flat_len, hik]) (fun j u hu => ?_))
      rw [add_lit, World.cell?_drew, cell_of_row w g _ cur e (0, 0) hg, Nat.zero_add, ← hu, ← htk, List.getElem?_take, if_pos (by have := (List.getElem?_eq_some_iff.1 hu).1; rw [E.flat_len] at this; exact this)]
      simp

end

/-- copy(dst, src): dst a part of a block that may be written; m: what is read of src. -/
theorem run_copyK {α : Type} {E : Enc α} {P : Program} {e : TypeId} {i : TypeInfo} {w : World} (dT sT ty : TypeId) (hu : P.underlying dT = some (.slice e)) (hi : P.info? e = some i) (hik : i.size = E.k)
    (g o dLen dCap : Nat) (cur : Array Value) (t : TypeId) (hg : w.heap[g]? = some (.cells cur t (0, 0))) {S : Nat → Prop} {p : Option Addr} {n c c' : Nat} {m : List α} (hn : m.length = Nat.min n dLen) (hs : SlAt E S w p c' m)
    (hfit : o + m.length * E.k ≤ cur.size) :
    (Builtin.copy_ #[dT, sT] ty #[.slice (some ⟨g, o, none⟩) dLen dCap, .slice p n c]).run P w =
      .ok (goInt m.length) (w.setRow g (cur.toList.take o ++ m.flatMap E.enc ++ cur.toList.drop (o + m.length * E.k)).toArray) := by
  have hlen := E.flat_len m
  have hst := run_storeCells_at P g o t (m.flatMap E.enc) 0 cur w hg (by rw [hlen]; simpa using hfit) (E.flat_one _)
  have hf : (Builtin.firstCells i.size m.length (.slice p n c)).run P w = .ok (m.flatMap E.enc).toArray w := by
    by_cases h0 : m.length = 0
    · have : m = [] := List.eq_nil_of_length_eq_zero h0
      subst this
      cases p with
      | none => exact run_firstCells_none _ _ _ _ _
      | some a => exact run_firstCells_some w i.size 0 a _ c [] (by simp) (fun j v h => by simp at h)
    · obtain ⟨g', off, rfl, _, _, hc⟩ := hs.cells (Nat.pos_of_ne_zero h0)
      refine run_firstCells_some w i.size _ _ _ _ _ (by rw [hlen, hik]) (fun j u hu => ?_)
      have hj := (List.getElem?_eq_some_iff.1 hu).1
      rw [hlen] at hj
      rw [add_lit, hc j hj, ← hu]
  simp only [Nat.add_zero] at hst
  rw [hlen] at hst
  simp [Builtin.copy_, run_underlying hu, Builtin.lenOf, sizeOf, typeInfo, hi, ← hn, hf, hst]

/-- copy, in a walk. -/
theorem wpl_copy {α : Type} {E : Enc α} {P : Program} {e : TypeId} {i : TypeInfo} {w : World} {ops : Array Oper} {Q : Exit → Act → World → Prop} {rest : List Oper} {op : Oper} {a : Act}
    (hgd : op.guard = none) (d s : Operand) (dT sT : TypeId) (ho : op.op = .call { callee := .builtin .copy, args := #[d, s], argTypes := #[dT, sT] })
    (hu : P.underlying dT = some (.slice e)) (hi : P.info? e = some i) (hik : i.size = E.k)
    (g o dLen dCap : Nat) (hd : a.eval d = .slice (some ⟨g, o, none⟩) dLen dCap) (cur : Array Value) (t : TypeId) (hg : w.heap[g]? = some (.cells cur t (0, 0)))
    {S : Nat → Prop} {p : Option Addr} {c c' n : Nat} {m : List α} (hs : a.eval s = .slice p n c) (hm : SlAt E S w p c' m) (hn : m.length = Nat.min n dLen) (hfit : o + m.length * E.k ≤ cur.size)
    (h : wpList P ops Q rest (a.put op.dst (goInt m.length)) (w.setRow g (cur.toList.take o ++ (m.flatMap E.enc ++ cur.toList.drop (o + m.length * E.k))).toArray)) :
    wpList P ops Q (op :: rest) a w := by
  refine wpList_plain hgd fun K hK => ?_
  have hrun := run_copyK (E := E) (P := P) dT sT op.type hu hi hik g o dLen dCap cur t hg (c := c) hn hm hfit
  unfold Oper.wp
  simp [execOp, ho, resolve, invoke, builtin, hd, hs, hrun, Result.andThen]
  exact hK _ _ h

/-- append within the capacity: in place. -/
theorem run_append_inplace {α : Type} {E : Enc α} {P : Program} {t e : TypeId} {z : α} {bytes : Nat} {w : World} (T : ElemT P E t e z bytes) (ty : TypeId) (g n c : Nat) (cur : Array Value)
    (hg : w.heap[g]? = some (.cells cur e (0, 0))) (hcs : cur.size = c * E.k) {S : Nat → Prop} {p : Option Addr} {c' : Nat} {m : List α} (hm : SlAt E S w p c' m) (hroom : n + m.length ≤ c) :
    (Builtin.append_ #[t, t] ty #[.slice (some ⟨g, 0, none⟩) n c, .slice p m.length c']).run P w =
      .ok (.slice (some ⟨g, 0, none⟩) (n + m.length) c) (w.setRow g (cur.toList.take (n * E.k) ++ m.flatMap E.enc ++ cur.toList.drop (n * E.k + m.length * E.k)).toArray) := by
  obtain ⟨i, hi, hik, hib, zv, hz, hzc⟩ := T.info
  have hfl := E.flat_len m
  have hsrc : ∀ w', (∀ a, w'.cell? a = w.cell? a) → (Builtin.firstCells i.size m.length (.slice p m.length c')).run P w' = .ok (m.flatMap E.enc).toArray w' := by
    intro w' hw
    by_cases h0 : m.length = 0
    · have : m = [] := List.eq_nil_of_length_eq_zero h0
      subst this
      cases p with
      | none => exact run_firstCells_none _ _ _ _ _
      | some a => exact run_firstCells_some w' i.size 0 a 0 c' [] (by simp) (fun j v h => by simp at h)
    · obtain ⟨g, off, rfl, _, hg, hc⟩ := hm.cells (by omega)
      refine run_firstCells_some w' i.size m.length _ _ _ _ (by rw [hfl, hik]) (fun j u hu => ?_)
      rw [add_lit, hw, hc j (by have := (List.getElem?_eq_some_iff.1 hu).1; rw [hfl] at this; exact this)]
      exact hu
  have hSrc : Src P i.size t (.slice p m.length c') m.length (m.flatMap E.enc) w :=
    ⟨.inl ⟨e, T.under⟩, fun _ => rfl, hsrc w (fun _ => rfl), hsrc w.drew (fun _ => rfl), by rw [hfl, hik], E.flat_one m⟩
  have hfit : n * E.k + m.length * E.k ≤ c * E.k := by rw [← Nat.add_mul]; exact Nat.mul_le_mul_right _ hroom
  have hr := run_append_room_src (P := P) w t t ty e i T.under hi g 0 n c _ m.length (m.flatMap E.enc) hSrc hroom
    (fun j hj => by
      rw [hfl] at hj
      rw [cell_of_row w g _ cur e (0, 0) hg, Array.getElem?_eq_getElem (by rw [hik, hcs]; omega)]; rfl)
    (fun j _ => frozen_of_row w g _ cur e hg)
  have hst1 := run_storeCells_at P g (n * E.k) e (m.flatMap E.enc) 0 cur w hg (by rw [hfl, hcs]; simpa using hfit) (E.flat_one m)
  have hst2 := run_storeCells_cells (P := P) g (n * E.k) (m.flatMap E.enc) 0 w
    (fun j hj => by rw [hfl] at hj; rw [cell_of_row w g _ cur e (0, 0) hg, Array.getElem?_eq_getElem (by omega)]; rfl) (fun j _ => frozen_of_row w g _ cur e hg) (E.flat_one m)
  rw [hst2] at hst1
  simp only [Nat.add_zero] at hst1
  rw [hfl] at hst1
  rw [hr, hik, Nat.zero_add]
  injection hst1 with _ h
  rw [h]

/-- clear(s). -/
theorem run_clear {α : Type} {E : Enc α} {P : Program} {t e : TypeId} {z : α} {bytes : Nat} {w : World} (T : ElemT P E t e z bytes) (ty : TypeId) (g o n c : Nat) (cur : Array Value)
    (hg : w.heap[g]? = some (.cells cur e (0, 0))) (hfit : o + n * E.k ≤ cur.size) (hn : 0 < n) :
    (Builtin.clear_ #[t] ty #[.slice (some ⟨g, o, none⟩) n c]).run P w =
      .ok (.tuple #[]) (w.setRow g (cur.toList.take o ++ (List.replicate n z).flatMap E.enc ++ cur.toList.drop (o + n * E.k)).toArray) := by
  obtain ⟨i, hi, hik, hib, zv, hz, hzc⟩ := T.info
  have hfl : ((List.replicate n z).flatMap E.enc).length = n * E.k := by rw [E.flat_len]; simp
  have hst := run_storeCells_at P g o e ((List.replicate n z).flatMap E.enc) 0 cur w hg (by rw [hfl]; simpa using hfit) (E.flat_one _)
  simp only [Nat.add_zero] at hst
  rw [hfl] at hst
  have hzl := zeroCells_flat (E := E) zv.cells n hzc
  cases n with
  | zero => omega
  | succ n =>
    simp only [Builtin.clear_, run_underlying T.under, Sem.run_bind, Sem.run_pure, Result.andThen, List.getElem?_toArray, List.getElem?_cons_zero]
    simp [zeroValue, typeInfo, hi, hz, Sem.run_bind, Result.andThen, hzl, hst]

/-- clear, in a walk. -/
theorem wpl_clear {P : Program} {w : World} {ops : Array Oper} {Q : Exit → Act → World → Prop} {rest : List Oper} {o : Oper} {a : Act} (hgd : o.guard = none) (s : Operand) (t : TypeId)
    (ho : o.op = .call { callee := .builtin .clear, args := #[s], argTypes := #[t] }) (vs : Value) (hvs : a.eval s = vs) (v' : Value) (w' : World)
    (hr : (Builtin.clear_ #[t] o.type #[vs]).run P w = .ok v' w') (h : wpList P ops Q rest (a.put o.dst v') w') : wpList P ops Q (o :: rest) a w := by
  refine wpList_plain hgd fun K hK => ?_
  unfold Oper.wp execOp
  simp only [ho, resolve, invoke, builtin, Sem.run_bind, Sem.run_pure, Result.andThen_ok, List.map_toArray, List.map_cons, List.map_nil, hvs, hr]
  exact hK _ _ h

/-- Two cuts of a row, one behind the other, filled. -/
theorem splice_two {β : Type} (C A V B C2 C3 : List β) (hA : C.take A.length = A) (hl : A.length + V.length + B.length ≤ C.length)
    (h2 : C2 = C.take A.length ++ (V ++ C.drop (A.length + V.length))) (h3 : C3 = C2.take (A.length + V.length) ++ (B ++ C2.drop (A.length + V.length + B.length))) :
    C3.take (A.length + V.length + B.length) = A ++ (V ++ B) ∧ C3.length = C.length := by
  rw [hA] at h2
  have h2l : C2.length = C.length := by rw [h2]; simp; omega
  have e : C2.take (A.length + V.length) = A ++ V := by
    rw [h2, ← List.append_assoc, ← List.length_append]; exact List.take_left
  rw [e] at h3
  refine ⟨?_, by rw [h3]; simp; omega⟩
  rw [h3, ← List.append_assoc, ← List.append_assoc, ← List.length_append, ← List.length_append]
  exact List.take_left

/-- The same, the later cut first. -/
theorem splice_back {β : Type} (C A V B C2 C3 : List β) (hA : C.take A.length = A) (hl : A.length + V.length + B.length ≤ C.length)
    (h2 : C2 = C.take (A.length + V.length) ++ (B ++ C.drop (A.length + V.length + B.length))) (h3 : C3 = C2.take A.length ++ (V ++ C2.drop (A.length + V.length))) :
    C3.take (A.length + V.length + B.length) = A ++ (V ++ B) ∧ C3.length = C.length := by
  have h2l : C2.length = C.length := by rw [h2]; simp; omega
  have hAV : (C.take (A.length + V.length)).length = A.length + V.length := by simp; omega
  have e : C2.take A.length = A := by
    rw [h2, List.take_append_of_le_length (by rw [hAV]; omega), List.take_take, Nat.min_eq_left (by omega), hA]
  have e2 : C2.drop (A.length + V.length) = B ++ C.drop (A.length + V.length + B.length) := by
    rw [h2, ← hAV]; rw [hAV]; conv => lhs; arg 1; rw [← hAV]
    exact List.drop_left
  rw [e, e2] at h3
  refine ⟨?_, by rw [h3]; simp; omega⟩
  rw [h3, ← List.append_assoc, ← List.append_assoc, ← List.append_assoc, ← List.length_append, ← List.length_append]
  exact List.take_left

theorem Keeps.setRow {F : Nat → Prop} {a w : World} (h : Keeps F a w) {g : Nat} (hg : F g ∨ a.heap.size ≤ g) (cs : Array Value) : Keeps F a (w.setRow g cs) :=
  ⟨h.os, h.tape, h.output, by have := h.size; simpa using this, fun k hk hn => by
    rw [setRow_other w g k cs (by rcases hg with hg | hg; · intro e; subst e; exact hn hg
                                  · omega)]; exact h.block k hk hn⟩

/-- x[i:k] of a slice, for the walk. -/
theorem run_slice_lh {P : Program} (t e : TypeId) (size : Nat) (ht : P.underlying t = some (.slice e)) (hz : (P.info? e).map (·.size) = some size) (p : Option Addr) (n c i k : Nat) (h1 : i ≤ k) (h2 : k ≤ c) (w : World) (hc : c ≤ 9223372036854775807) :
    (Instr.slice t (.slice p n c) (some (.int .i64 i)) (some (.int .i64 k)) none).run P w = .ok (.slice (subAt size p c i) (k - i) (c - i)) w := by
  cases hi : P.info? e with
  | none => rw [hi] at hz; cases hz
  | some inf =>
    rw [hi] at hz
    have hs : inf.size = size := by simpa using hz
    have e1 : IntKind.i64.wrap (k : Int) = k := by rw [IntKind.wrap_i64]; omega
    have e2 : IntKind.i64.wrap (i : Int) = i := by rw [IntKind.wrap_i64]; omega
    simp [Instr.slice, Instr.sliceBounds, Instr.sliceBound, asIntOf, run_underlying ht, sizeOf, typeInfo, hi, hs, subAt, h1, h2]

theorem run_slice_l {P : Program} (t e : TypeId) (size : Nat) (ht : P.underlying t = some (.slice e)) (hz : (P.info? e).map (·.size) = some size) (p : Option Addr) (n c i : Nat) (h1 : i ≤ n) (w : World) (hc : n ≤ 9223372036854775807) :
    (Instr.slice t (.slice p n c) (some (.int .i64 i)) none none).run P w = .ok (.slice (subAt size p c i) (n - i) (c - i)) w := by
  cases hi : P.info? e with
  | none => rw [hi] at hz; cases hz
  | some inf =>
    rw [hi] at hz
    have hs : inf.size = size := by simpa using hz
    simp [Instr.slice, Instr.sliceBounds, Instr.sliceBound, asIntOf, run_underlying ht, sizeOf, typeInfo, hi, hs, subAt, h1]

theorem run_slice_h {P : Program} (t e : TypeId) (ht : P.underlying t = some (.slice e)) (hz : ((P.info? e).map (·.size)).isSome = true) (g off n c k : Nat) (h1 : k ≤ c) (w : World) (hc : c ≤ 9223372036854775807) :
    (Instr.slice t (.slice (some ⟨g, off, none⟩) n c) none (some (.int .i64 k)) none).run P w = .ok (.slice (some ⟨g, off, none⟩) k c) w := by
  cases hi : P.info? e with
  | none => rw [hi] at hz; cases hz
  | some inf => simp [Instr.slice, Instr.sliceBounds, Instr.sliceBound, asIntOf, run_underlying ht, sizeOf, typeInfo, hi, h1, add_lit]

/-- A scope with one label to which the run jumps back: what holds whenever the label is come to (J), and a measure. -/
theorem wp_scope_goto {P : Program} {a : Act} {w : World} {Q : Exit → Act → World → Prop} {c r : Code} (l : Nat) (J : Act → World → Prop) (μ : Act → World → Nat) (hf : findLabel c l = some (Code.skip.seq r))
    (first : (∀ a w, J a w → r.wp P (Exit.jump l J Q) a w) → c.wp P (Exit.jump l J Q) a w)
    (pass : ∀ a w, J a w → r.wp P (Exit.jump l (fun a' w' => J a' w' ∧ μ a' w' < μ a w) Q) a w) : (Code.scope c).wp P Q a w := by
  refine wp_scope_jumps l J μ hf (first fun a w hJ => ?_) (fun a w hJ => wp_seq (wp_skip ?_))
  · show r.wp P (Exit.jump l J Q) a w
    refine wp_mono (pass a w hJ) fun e a w h => ?_
    cases e <;> first | exact h | exact ⟨h.1, h.2.1⟩
  · exact pass a w hJ

/-- An operation whose run is known. -/
theorem wpl_run {P : Program} {ops : Array Oper} {Q : Exit → Act → World → Prop} {rest : List Oper} {o : Oper} {a : Act} {w : World} (hg : o.guard = none) {v : Value} {w' : World}
    (hr : (execOp a.eval o).run P w = .ok (.value v) w') (h : wpList P ops Q rest (a.put o.dst v) w') : wpList P ops Q (o :: rest) a w :=
  wpList_plain hg fun K hK => by unfold Oper.wp; rw [hr]; exact hK _ _ h

/-- append, in a walk: v owned, x read. -/
theorem wpl_append {α : Type} {E : Enc α} {P : Program} {t e : TypeId} {z : α} {bytes : Nat} {S : Nat → Prop} {w : World} {ops : Array Oper} {Q : Exit → Act → World → Prop} {rest : List Oper} {o : Oper} {a : Act}
    (hgd : o.guard = none) (s x : Operand) (ho : o.op = .call { callee := .builtin .append, args := #[s, x], argTypes := #[t, t] }) (T : ElemT P E t e z bytes)
    {v xv : Value} {l m : List α} {S2 : Nat → Prop} (hown : Own E e S w v l) (hsl : Sl E S2 w xv m) (hs : a.eval s = v) (hx : a.eval x = xv) (hS : S w.heap.size)
    (h63 : l.length + m.length ≤ maxLen) (hb : (l.length + m.length) * bytes ≤ 140737488355328)
    (h : ∀ v' w', Own E e S w' v' (l ++ m) → Keeps (fun g => v.ownBlock = some g) w w' → (∀ g, v'.ownBlock = some g → v.ownBlock = some g ∨ w.heap.size ≤ g) → wpList P ops Q rest (a.put o.dst v') w') :
    wpList P ops Q (o :: rest) a w := by
  obtain ⟨v', w', hr, h1, h2, h3⟩ := run_append T o.type hown hsl hS h63 hb
  exact Lib.wpList_append_run w hgd s x t t ho v xv hs hx v' w' hr (h v' w' h1 h2 h3)

end Go.Proofs.YtfomkkoecelakaaDoor

/-
  From an argument's reading to the slices of the walks.
-/
set_option maxRecDepth 100000
namespace Go.Proofs.YtfomkkoecelakaaDoor
open Go.RowKit Go.ChangeShapes Go.WideShapes Go.ChangeAt

theorem list_of {α : Type} {Q : Nat → α → Prop} : ∀ n, (∀ i, i < n → ∃ x, Q i x) → ∃ l : List α, l.length = n ∧ ∀ i x, l[i]? = some x → Q i x
  | 0, _ => ⟨[], rfl, fun i x h => by simp at h⟩
  | n + 1, h => by
    obtain ⟨l, hl, hq⟩ := list_of n (fun i hi => h i (by omega))
    obtain ⟨x, hx⟩ := h n (by omega)
    refine ⟨l ++ [x], by simp [hl], fun i y hy => ?_⟩
    by_cases hi : i < n
    · rw [List.getElem?_append_left (by omega)] at hy; exact hq i y hy
    · rw [List.getElem?_append_right (by omega)] at hy
      have hi0 : i - l.length = 0 := by
        have := (List.getElem?_eq_some_iff.1 hy).1
        simp at this; omega
      rw [hi0] at hy
      have : i = n := by omega
      subst this
      simp at hy; subst hy; exact hx

section
variable {H : Type} {enc : TypeId × Value → H} {P : Program} {W : World}

/-- A slice whose elements read, cell by cell, as E's. -/
theorem open_sl {α : Type} (E : Enc α) {good : α → Prop} {t e : TypeId} {p : Option Addr} {len cap : Nat} {d : DataW H} {ps : List MemPlace} (ht : P.underlying t = some (.slice e)) (hC : P.cellsOf e = E.k)
    (h : DataW.Trod enc P W 0 (fun _ => true) true t (.slice p len cap) d ps)
    (hdec : ∀ (n : Nat) (cs : List Value) (y : DataW H × List MemPlace), cs.length = E.k → DataW.trod enc P W 0 (fun _ => true) true n e cs = some y → ∃ x, E.enc x = cs ∧ good x) :
    ∃ l : List α, len = l.length ∧ SlAt E (fun g => g < W.heap.size) W p cap l ∧ ∀ x ∈ l, good x := by
  obtain ⟨fuel, hf⟩ := h
  rcases Go.Deep.open_slice ht hf with ⟨hcs, _⟩ | ⟨a, len1, cap1, m, n, D, Pl, hcs, _, hl, hm, hmm, _, hi⟩
  · simp [Value.cells] at hcs
    obtain ⟨e1, e2, e3⟩ := hcs
    subst e1 e2 e3
    exact ⟨[], rfl, ⟨Nat.le_refl _, Nat.zero_le _, fun _ => rfl, (fun h => by omega), (fun h => by simp at h)⟩, by simp⟩
  · simp [Value.cells] at hcs
    obtain ⟨e1, e2, e3⟩ := hcs
    subst e1 e2 e3
    simp only [if_true] at hmm
    have hmm1 := hmm.symm
    subst hmm1
    clear hmm
    obtain ⟨l, hll, hq⟩ := list_of (Q := fun i x => (∀ j, j < E.k → W.cell? (a.add (i * E.k + j)) = (E.enc x)[j]?) ∧ good x) cap (fun i him => by
      obtain ⟨cs', hc, ht'⟩ := hi i him
      rw [hC] at hc
      obtain ⟨_, hcl, hat⟩ := World.cells?_some hc
      obtain ⟨x, hx, hg⟩ := hdec n cs' _ hcl ht'
      refine ⟨x, fun j hj => ?_, hg⟩
      rw [hx, ← hat j hj, Go.Deep.add_add])
    have hspot : 0 < cap → a.spot = none := fun h0 => by
      obtain ⟨x, hx⟩ : ∃ x, l[0]? = some x := ⟨_, List.getElem?_eq_getElem (by omega)⟩
      have h1 := (hq 0 x hx).1 0 E.pos
      obtain ⟨u, hu⟩ : ∃ u, (E.enc x)[0]? = some u := ⟨_, List.getElem?_eq_getElem (by rw [E.len]; exact E.pos)⟩
      rw [hu] at h1
      simpa [Addr.add] using World.cell?_spot h1
    refine ⟨l.take len, by simp; omega, ⟨by simp; omega, hm, (fun h => by cases h), (fun h0 a' ha => by cases ha; exact hspot h0), fun h0 => ?_⟩, fun x hx => ?_⟩
    · simp at h0
      have hs := hspot (by omega)
      obtain ⟨b, off, sp⟩ := a
      subst hs
      refine ⟨b, off, rfl, ?_, ?_, fun j hj => ?_⟩
      rotate_left 2
      · have hk := E.pos
        rw [List.length_take, Nat.min_eq_left (by omega)] at hj
        have hd : j = j / E.k * E.k + j % E.k := by rw [Nat.mul_comm]; exact (Nat.div_add_mod j E.k).symm
        have hm' := Nat.mod_lt j hk
        have hq' : j / E.k < len := Nat.div_lt_of_lt_mul (by rw [Nat.mul_comm]; exact hj)
        obtain ⟨x, hx⟩ : ∃ x, l[j / E.k]? = some x := ⟨_, List.getElem?_eq_getElem (by omega)⟩
        have h1 := (hq _ x hx).1 _ hm'
        rw [add_lit] at h1
        rw [hd, h1, E.flat_get _ _ _ hm', List.getElem?_take, if_pos hq', hx]; rfl
      all_goals
        obtain ⟨x, hx⟩ : ∃ x, l[0]? = some x := ⟨_, List.getElem?_eq_getElem (by omega)⟩
        have h1 := (hq 0 x hx).1 0 E.pos
        obtain ⟨u, hu⟩ : ∃ u, (E.enc x)[0]? = some u := ⟨_, List.getElem?_eq_getElem (by rw [E.len]; exact E.pos)⟩
        rw [hu, add_lit] at h1
        exact lt_of_cell h1
    · obtain ⟨i, hi⟩ := List.mem_iff_getElem?.1 (List.mem_of_mem_take hx)
      exact (hq i x hi).2

/-- A slice of strings. -/
theorem open_strs_sl {t e : TypeId} {p : Option Addr} {len cap : Nat} {d : DataW H} {ps : List MemPlace} (ht : P.underlying t = some (.slice e)) (he : P.underlying e = some .string) (hC : P.cellsOf e = 1)
    (h : DataW.Trod enc P W 0 (fun _ => true) true t (.slice p len cap) d ps) :
    ∃ l : List ByteArray, len = l.length ∧ SlAt encStr (fun g => g < W.heap.size) W p cap l ∧ ∀ s ∈ l, s.size ≤ maxLen := by
  refine open_sl encStr ht hC h fun n cs y hl hy => ?_
  match cs, hl with
  | [v], _ =>
    obtain ⟨s, hs, _, hz⟩ := DataW.trod_string he hy
    exact ⟨s, hs.symm, hz⟩
end
end Go.Proofs.YtfomkkoecelakaaDoor
