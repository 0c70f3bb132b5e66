/-
  Lemmas on memory that speak of no program: what a call keeps (Keeps), slices that are read (Sl) and slices that are owned (Own), and what append and copy do to them.
-/
import Derived.WalkKit
import Derived.WalkSpells
import Derived.WalkLawsBesides
import Derived.Lib.Hide
import Derived.Lib.Bytealg
import Derived.Lib.AppendZeros
import Derived.Lib.AppendZerosOnto
import Derived.Lib.Overlaps
import Derived.Deep.AppendSrc
import Derived.Deep.Draws
import Derived.KernelRfl
import Derived.Lib.MinMaxS
import Derived.Test.YtimidmogcbapnaaGreatDoorProg
import Derived.Lib.Slices
import Derived.Shelf.Strings.SplitCore
import Derived.Shelf.Strings.Count
import Derived.Lib.SplitLaws

set_option linter.unusedSimpArgs false
set_option linter.unusedVariables false
set_option maxRecDepth 100000
namespace Go.Proofs.YtimidmogcbapnaaGreatDoor
open Go.RowKit
def NoB : Nat -> Prop := fun _ => False
structure Keeps (F : Nat -> Prop) (w w' : World) : Prop where
 os : w'.os = w.os
 tape : w'.tape = w.tape
 output : w'.output = w.output
 size : w.heap.size <= w'.heap.size
 block : ∀ k, k < w.heap.size -> ¬ F k -> w'.heap[k]? = w.heap[k]?
theorem Keeps.refl (F : Nat -> Prop) (w : World) : Keeps F w w := ⟨rfl, rfl, rfl, Nat.le_refl _, fun _ _ _ => rfl⟩
theorem Keeps.trans' {F G H : Nat -> Prop} {a b c : World} (h : Keeps F a b) (k : Keeps G b c) (hF : ∀ g, g < a.heap.size -> F g -> H g) (hG : ∀ g, g < a.heap.size -> G g -> H g) : Keeps H a c :=
 ⟨k.os.trans h.os, k.tape.trans h.tape, k.output.trans h.output, Nat.le_trans h.size k.size,
  fun i hi hn => (k.block i (Nat.lt_of_lt_of_le hi h.size) (fun hg => hn (hG i hi hg))).trans (h.block i hi (fun hf => hn (hF i hi hf)))⟩
theorem Keeps.trans {F : Nat -> Prop} {a b c : World} (h : Keeps F a b) (k : Keeps F b c) : Keeps F a c := h.trans' k (fun _ _ h => h) (fun _ _ h => h)
theorem Keeps.step {F G : Nat -> Prop} {a b c : World} (h : Keeps F a b) (k : Keeps G b c) (hG : ∀ g, G g -> F g ∨ a.heap.size <= g) : Keeps F a c :=
 h.trans' k (fun _ _ h => h) (fun g hg h => (hG g h).elim id (fun h => absurd hg (by omega)))
theorem Keeps.mono {F G : Nat -> Prop} {a b : World} (h : Keeps F a b) (hFG : ∀ g, g < a.heap.size -> F g -> G g) : Keeps G a b :=
 ⟨h.os, h.tape, h.output, h.size, fun i hi hn => h.block i hi (fun hf => hn (hFG i hi hf))⟩
theorem Keeps.of_none {F : Nat -> Prop} {a b : World} (h : Keeps NoB a b) : Keeps F a b := h.mono (fun _ _ h => h.elim)
theorem Keeps.alloc {F : Nat -> Prop} {a w : World} (h : Keeps F a w) (o : Obj) : Keeps F a (w.alloc o) :=
 h.trans ⟨rfl, rfl, rfl, by simp, fun k hk _ => Below.heap_alloc _ _ _ hk⟩
theorem Keeps.drew {F : Nat -> Prop} {a w : World} (h : Keeps F a w) : Keeps F a w.drew := ⟨h.os, h.tape, h.output, h.size, h.block⟩
theorem Keeps.drewN {F : Nat -> Prop} {a w : World} (h : Keeps F a w) (n : Nat) : Keeps F a (w.drewN n) := ⟨h.os, h.tape, h.output, h.size, h.block⟩
theorem Keeps.setCell {F : Nat -> Prop} {a w : World} (h : Keeps F a w) {p : Addr} (hp : F p.block ∨ a.heap.size <= p.block) (u : Value) : Keeps F a (w.setCell p u) :=
 ⟨h.os, h.tape, h.output, by have := h.size; simpa [World.setCell] using this, fun k hk hn => by
   rw [Below.heap_setCell _ _ _ _ (by rcases hp with hp | hp; · intro e; subst e; exact hn hp
                                      ·omega)]; exact h.block k hk hn⟩
theorem Keeps.below {F : Nat -> Prop} {B : Nat} {w w' : World} (h : Keeps F w w') (hB : B <= w.heap.size) (hF : ∀ g, g < B -> ¬ F g) : Below B w w' :=
 ⟨h.os, h.tape, h.output, h.size, fun k hk => h.block k (by omega) (hF k hk)⟩
theorem Keeps.cell {F : Nat -> Prop} {w w' : World} (h : Keeps F w w') {p : Addr} (hp : p.block < w.heap.size) (hF : ¬ F p.block) : w'.cell? p = w.cell? p :=
 World.cell?_of_block (w := w) (h.block p.block hp hF)
theorem Keeps.frozen {F : Nat -> Prop} {w w' : World} (h : Keeps F w w') {p : Addr} (hp : p.block < w.heap.size) (hF : ¬ F p.block) : w'.frozen? p = w.frozen? p :=
 World.frozen?_of_block (w := w) (h.block p.block hp hF)
theorem lt_of_cell {w : World} {a : Addr} {v : Value} (h : w.cell? a = some v) : a.block < w.heap.size := block_lt_of_cell h
theorem lt_of_block {w : World} {g : Nat} {o : Obj} (h : w.heap[g]? = some o) : g < w.heap.size := (Array.getElem?_eq_some_iff.1 h).1
theorem add_lit (g off j : Nat) : (⟨g, off, none⟩ : Addr).add j = ⟨g, off + j, none⟩ := by unfold Addr.add; split <;> simp_all
theorem setCell_self {w : World} {a : Addr} {v : Value} (h : w.cell? a = some v) : w.setCell a v = w := by
 obtain ⟨b, o, s⟩ := a
 have hb := lt_of_cell h
 simp only [World.cell?] at h
 cases w with
 | mk heap tape drawn os output =>
   simp only [World.setCell, World.mk.injEq, and_true]
   apply Array.ext_getElem?
   intro i
   rw [Array.getElem?_modify]
   split
   ·next e =>
    subst e
    cases hh : heap[b]? with
    | none => simp [hh] at h
    | some x =>
      simp only [hh] at h
      cases x <;> simp only [Option.map_some] at h ⊢ <;> try (cases h)
      rename_i c e f
      congr 2
      cases s with
      | some _ => simp at h
      | none =>
        simp only [Option.isSome_none, Bool.false_eq_true, if_false] at h ⊢
        apply Array.ext_getElem?
        intro j
        rw [Array.getElem?_setIfInBounds]
        split
        ·next e => subst e; split
                   ·exact h.symm
                   ·next hn => rw [Array.getElem?_eq_none (by omega)] at h; cases h
        ·rfl
   ·rfl
theorem heap_setCell_congr {w w1 : World} (a : Addr) (v : Value) (h : w1.heap[a.block]? = w.heap[a.block]?) : (w1.setCell a v).heap[a.block]? = (w.setCell a v).heap[a.block]? := by
 simp only [World.setCell, Array.getElem?_modify, if_true, h]
theorem Keeps.setCell2 {F : Nat -> Prop} {w w1 : World} (h : Keeps F w w1) (a : Addr) (v : Value) : Keeps F (w.setCell a v) (w1.setCell a v) :=
 ⟨h.os, h.tape, h.output, by have := h.size; simpa [World.setCell] using this, fun k hk hn => by
   have hk' : k < w.heap.size := by simpa [World.setCell] using hk
   by_cases e : k = a.block
   ·subst e; exact heap_setCell_congr a v (h.block _ hk' hn)
   ·rw [Below.heap_setCell _ _ _ _ e, Below.heap_setCell _ _ _ _ e]; exact h.block k hk' hn⟩
structure Enc (α : Type) where
 enc : α -> List Value
 k : Nat
 pos : 0 < k
 len : ∀ x, (enc x).length = k
 one : ∀ x, ∀ v ∈ enc x, v.oneCell' = true
section
variable {α : Type} (E : Enc α)
theorem Enc.flat_len (l : List α) : (l.flatMap E.enc).length = l.length * E.k := by
 induction l with
 | nil => simp
 | cons a l ih => simp [ih, E.len, Nat.add_mul]; omega
theorem Enc.flat_one (l : List α) : ∀ v ∈ l.flatMap E.enc, v.oneCell' = true := by
 intro v hv
 obtain ⟨x, _, hx⟩ := List.mem_flatMap.1 hv
 exact E.one x v hx
theorem Enc.flat_get (l : List α) (i j : Nat) (hj : j < E.k) : (l.flatMap E.enc)[i * E.k + j]? = (l[i]?).bind fun x => (E.enc x)[j]? := by
 induction l generalizing i with
 | nil => simp
 | cons a l ih =>
   rw [List.flatMap_cons]
   cases i with
   | zero => simp only [Nat.zero_mul, Nat.zero_add]; rw [List.getElem?_append_left (by rw [E.len]; exact hj)]; rfl
   | succ i =>
     rw [List.getElem?_append_right (by rw [E.len, Nat.add_mul]; omega), E.len]
     rw [show (i + 1) * E.k + j - E.k = i * E.k + j by rw [Nat.add_mul]; omega, ih]
     rfl
theorem Enc.flat_take (l : List α) (n : Nat) : (l.take n).flatMap E.enc = (l.flatMap E.enc).take (n * E.k) := by
 induction l generalizing n with
 | nil => simp
 | cons a l ih =>
   cases n with
   | zero => simp
   | succ n =>
     rw [List.take_succ_cons, List.flatMap_cons, List.flatMap_cons, ih, List.take_append, E.len]
     rw [List.take_of_length_le (l := E.enc a) (by rw [E.len, Nat.add_mul]; omega), show (n + 1) * E.k - E.k = n * E.k by rw [Nat.add_mul]; omega]
theorem Enc.flat_drop (l : List α) (n : Nat) : (l.drop n).flatMap E.enc = (l.flatMap E.enc).drop (n * E.k) := by
 induction l generalizing n with
 | nil => simp
 | cons a l ih =>
   cases n with
   | zero => simp
   | succ n =>
     rw [List.drop_succ_cons, List.flatMap_cons, ih, List.drop_append, E.len]
     rw [List.drop_of_length_le (l := E.enc a) (by rw [E.len, Nat.add_mul]; omega), show (n + 1) * E.k - E.k = n * E.k by rw [Nat.add_mul]; omega]
     rfl
structure SlAt (S : Nat -> Prop) (w : World) (p : Option Addr) (c : Nat) (l : List α) : Prop where
 cap : l.length <= c
 max : c <= maxLen
 nilc : p = none -> c = 0
 spot : 0 < c -> ∀ a, p = some a -> a.spot = none
 cells : 0 < l.length -> ∃ g off, p = some ⟨g, off, none⟩ ∧ S g ∧ g < w.heap.size ∧ ∀ j, j < l.length * E.k -> w.cell? ⟨g, off + j, none⟩ = (l.flatMap E.enc)[j]?
def Sl (S : Nat -> Prop) (w : World) (v : Value) (l : List α) : Prop := ∃ p c, v = .slice p l.length c ∧ SlAt E S w p c l
variable {E} {S : Nat -> Prop} {w : World} {p : Option Addr} {c : Nat} {l : List α} {v : Value}
theorem Sl.nil (E : Enc α) (S : Nat -> Prop) (w : World) : Sl E S w (.slice none 0 0) [] :=
 ⟨none, 0, rfl, by simp, by simp, fun _ => rfl, (fun h => by omega), (fun h => by simp at h)⟩
theorem SlAt.keep {F : Nat -> Prop} {w' : World} (h : SlAt E S w p c l) (k : Keeps F w w') (hF : ∀ g, S g -> g < w.heap.size -> ¬ F g) : SlAt E S w' p c l :=
 ⟨h.cap, h.max, h.nilc, h.spot, fun h0 => by
   obtain ⟨g, off, rfl, hS, hg, hc⟩ := h.cells h0
   exact ⟨g, off, rfl, hS, Nat.lt_of_lt_of_le hg k.size, fun j hj => (k.cell hg (hF g hS hg)).trans (hc j hj)⟩⟩
theorem Sl.keep {F : Nat -> Prop} {w' : World} (h : Sl E S w v l) (k : Keeps F w w') (hF : ∀ g, S g -> g < w.heap.size -> ¬ F g) : Sl E S w' v l := by
 obtain ⟨p, c, rfl, h⟩ := h
 exact ⟨p, c, rfl, h.keep k hF⟩
theorem Sl.of (h : SlAt E S w p c l) : Sl E S w (.slice p l.length c) l := ⟨p, c, rfl, h⟩
theorem SlAt.keepS {S' F : Nat -> Prop} {w' : World} (h : SlAt E S w p c l) (k : Keeps F w w') (hF : ∀ g, S g -> g < w.heap.size -> ¬ F g) (hS : ∀ g, S g -> g < w.heap.size -> S' g) : SlAt E S' w' p c l :=
 ⟨h.cap, h.max, h.nilc, h.spot, fun h0 => by
   obtain ⟨g, off, rfl, hSg, hg, hc⟩ := h.cells h0
   exact ⟨g, off, rfl, hS g hSg hg, Nat.lt_of_lt_of_le hg k.size, fun j hj => (k.cell hg (hF g hSg hg)).trans (hc j hj)⟩⟩
theorem Sl.keepS {S' F : Nat -> Prop} {w' : World} (h : Sl E S w v l) (k : Keeps F w w') (hF : ∀ g, S g -> g < w.heap.size -> ¬ F g) (hS : ∀ g, S g -> g < w.heap.size -> S' g) : Sl E S' w' v l := by
 obtain ⟨p, c, rfl, h⟩ := h
 exact ⟨p, c, rfl, h.keepS k hF hS⟩
theorem Sl.keepN {w' : World} (h : Sl E S w v l) (k : Keeps NoB w w') : Sl E S w' v l := h.keep k (fun _ _ _ h => h)
theorem SlAt.keepN {w' : World} (h : SlAt E S w p c l) (k : Keeps NoB w w') : SlAt E S w' p c l := h.keep k (fun _ _ _ h => h)
theorem Sl.mono {S' : Nat -> Prop} (h : Sl E S w v l) (hS : ∀ g, S g -> g < w.heap.size -> S' g) : Sl E S' w v l := by
 obtain ⟨p, c, rfl, h⟩ := h
 refine ⟨p, c, rfl, h.cap, h.max, h.nilc, h.spot, fun h0 => ?_⟩
 obtain ⟨g, off, rfl, hSg, hg, hc⟩ := h.cells h0
 exact ⟨g, off, rfl, hS g hSg hg, hg, hc⟩
theorem SlAt.at (h : SlAt E S w p c l) {i : Nat} {x : α} (hi : l[i]? = some x) :
 ∃ g off, p = some ⟨g, off, none⟩ ∧ S g ∧ g < w.heap.size ∧ ∀ j u, (E.enc x)[j]? = some u -> w.cell? ⟨g, off + (i * E.k + j), none⟩ = some u := by
 obtain ⟨hil, hix⟩ := List.getElem?_eq_some_iff.1 hi
 obtain ⟨g, off, hp, hS, hg, hc⟩ := h.cells (by omega)
 refine ⟨g, off, hp, hS, hg, fun j u hu => ?_⟩
 have hj : j < E.k := by have := (List.getElem?_eq_some_iff.1 hu).1; rw [E.len] at this; exact this
 have hlt : i * E.k + j < l.length * E.k := by
  have : (i + 1) * E.k <= l.length * E.k := Nat.mul_le_mul_right _ hil
  rw [Nat.add_mul] at this; omega
 rw [hc _ hlt, E.flat_get l i j hj, hi]
 exact hu
def subAt (k : Nat) (p : Option Addr) (c i : Nat) : Option Addr := if c = i then p else p.map (·.add (i * k))
theorem SlAt.sub (h : SlAt E S w p c l) (i k : Nat) (hik : i <= k) (hk : k <= l.length) : SlAt E S w (subAt E.k p c i) (c - i) ((l.take k).drop i) := by
 have hcap := h.cap
 have hmax := h.max
 unfold subAt
 by_cases hci : c = i
 ·rw [if_pos hci]
  exact ⟨by simp; omega, by omega, fun _ => by omega, (fun h0 => by omega), fun h0 => by simp at h0; omega⟩
 ·rw [if_neg hci]
  cases p with
  | none => exact absurd (h.nilc rfl) (by omega)
  | some a =>
    have hsp := h.spot (by omega) a rfl
    obtain ⟨g, off, sp⟩ := a
    subst hsp
    simp only [Option.map_some, add_lit]
    refine ⟨by simp; omega, by omega, (fun h => by cases h), (fun _ a ha => by cases ha; rfl), fun h0 => ?_⟩
    obtain ⟨g', off', hp, hS, hg, hc⟩ := h.cells (by simp at h0; omega)
    cases hp
    refine ⟨g, off + i * E.k, rfl, hS, hg, fun j hj => ?_⟩
    have hkl : ((l.take k).drop i).length = k - i := by simp; omega
    rw [hkl] at hj
    rw [Nat.add_assoc, hc _ (by
     have : (k - i + i) * E.k <= l.length * E.k := Nat.mul_le_mul_right _ (by omega)
     rw [Nat.add_mul] at this; omega)]
    rw [E.flat_drop, E.flat_take, List.getElem?_drop, List.getElem?_take]
    rw [if_pos (by
     have : (k - i + i) * E.k <= k * E.k := Nat.mul_le_mul_right _ (by omega)
     rw [Nat.add_mul] at this; omega)]
def Own (E : Enc α) (e : TypeId) (S : Nat -> Prop) (w : World) (v : Value) (l : List α) : Prop :=
 w.ownsRow 0 e E.k v l.length (l.flatMap E.enc) ∧ ∀ g, v.ownBlock = some g -> S g
theorem Own.nil (E : Enc α) (e : TypeId) (S : Nat -> Prop) (w : World) : Own E e S w (.slice none 0 0) [] :=
 ⟨by simpa using World.ownsRow_nil w 0 e E.k, fun g h => by simp [Value.ownBlock] at h⟩
variable {e : TypeId}
theorem Own.lt (h : Own E e S w v l) : ∀ g, v.ownBlock = some g -> g < w.heap.size := fun g hg => (h.1.lt g hg).2
theorem Own.keep {F : Nat -> Prop} {w' : World} (h : Own E e S w v l) (k : Keeps F w w') (hF : ∀ g, v.ownBlock = some g -> ¬ F g) : Own E e S w' v l := by
 refine ⟨⟨h.1.1, ?_⟩, h.2⟩
 rcases h.1.2 with hn | ⟨g, cap, cur, hv, hg, hh, r⟩
 ·exact .inl hn
 ·subst hv
  exact .inr ⟨g, cap, cur, rfl, hg, (k.block g (lt_of_block hh) (hF g rfl)).trans hh, r⟩
theorem Own.mono {S' : Nat -> Prop} (h : Own E e S w v l) (hS : ∀ g, v.ownBlock = some g -> S g -> S' g) : Own E e S' w v l :=
 ⟨h.1, fun g hg => hS g hg (h.2 g hg)⟩
theorem Own.sl (h : Own E e S w v l) : Sl E S w v l := by
 rcases h.1.2 with ⟨rfl, hn⟩ | ⟨g, cap, cur, rfl, _, hg, hcap, hmax, hsz, htk⟩
 ·have : l = [] := List.eq_nil_of_length_eq_zero hn
  subst this
  exact Sl.nil E S w
 ·refine ⟨_, cap, rfl, hcap, hmax, (fun h => by cases h), (fun _ a ha => by cases ha; rfl), fun _ => ⟨g, 0, rfl, h.2 g rfl, lt_of_block hg, fun j hj => ?_⟩⟩
  rw [cell_of_row w g _ cur e (0, 0) hg, <- htk, List.getElem?_take, if_pos hj, Nat.zero_add]
  simp
theorem Own.cases (h : Own E e S w v l) : (v = .slice none 0 0 ∧ l = []) ∨
 ∃ g cap cur, v = .slice (some ⟨g, 0, none⟩) l.length cap ∧ S g ∧ w.heap[g]? = some (.cells cur e (0, 0)) ∧ l.length <= cap ∧ cap <= maxLen ∧ cur.size = cap * E.k ∧ cur.toList.take (l.length * E.k) = l.flatMap E.enc := by
 rcases h.1.2 with ⟨rfl, hn⟩ | ⟨g, cap, cur, rfl, _, hg, hcap, hmax, hsz, htk⟩
 ·exact .inl ⟨rfl, List.eq_nil_of_length_eq_zero hn⟩
 ·exact .inr ⟨g, cap, cur, rfl, h.2 g rfl, hg, hcap, hmax, hsz, htk⟩
theorem Own.row (h : Own E e S w v l) (h0 : 0 < l.length) :
 ∃ g cap cur, v = .slice (some ⟨g, 0, none⟩) l.length cap ∧ S g ∧ w.heap[g]? = some (.cells cur e (0, 0)) ∧ l.length <= cap ∧ cap <= maxLen ∧ cur.size = cap * E.k ∧ cur.toList.take (l.length * E.k) = l.flatMap E.enc := by
 rcases h.cases with ⟨_, rfl⟩ | h
 ·simp at h0
 ·exact h
theorem Own.at (h : Own E e S w (.slice p l.length c) l) : SlAt E S w p c l := by
 obtain ⟨p', c', hpc, hs⟩ := h.sl
 cases hpc
 exact hs
theorem Own.mk {g cap : Nat} {cur : Array Value} (hS : S g) (hg : w.heap[g]? = some (.cells cur e (0, 0))) (hcap : l.length <= cap) (hmax : cap <= maxLen) (hsz : cur.size = cap * E.k)
 (htk : cur.toList.take (l.length * E.k) = l.flatMap E.enc) : Own E e S w (.slice (some ⟨g, 0, none⟩) l.length cap) l :=
 ⟨⟨E.flat_len l, .inr ⟨g, cap, cur, rfl, Nat.zero_le _, hg, hcap, hmax, hsz, htk⟩⟩, fun g' h => by simp [Value.ownBlock] at h; subst h; exact hS⟩
end
def encStr : Enc ByteArray where
 enc := fun s => [.string s]
 k := 1
 pos := by decide
 len := fun _ => rfl
 one := fun x v hv => by simp at hv; subst hv; rfl
theorem SlAt.str {S : Nat -> Prop} {w : World} {p : Option Addr} {c : Nat} {l : List ByteArray} (h : SlAt encStr S w p c l) {i : Nat} {x : ByteArray} (hi : l[i]? = some x) :
 ∃ g off, p = some ⟨g, off, none⟩ ∧ S g ∧ g < w.heap.size ∧ w.cell? ⟨g, off + i, none⟩ = some (.string x) := by
 obtain ⟨g, off, hp, hS, hg, hc⟩ := h.at hi
 refine ⟨g, off, hp, hS, hg, ?_⟩
 have := hc 0 _ rfl
 rwa [Nat.add_zero, show encStr.k = 1 from rfl, Nat.mul_one] at this
structure ElemT {α : Type} (P : Program) (E : Enc α) (t e : TypeId) (z : α) (bytes : Nat) : Prop where
 under : P.underlying t = some (.slice e)
 info : ∃ i : TypeInfo, P.info? e = some i ∧ i.size = E.k ∧ i.bytes = bytes ∧ ∃ zv, i.zero = some zv ∧ zv.cells.toList = E.enc z
section
variable {α : Type} {E : Enc α} {P : Program} {t e : TypeId} {z : α} {bytes : Nat} {S : Nat -> Prop} {w : World}
theorem zeroCells_flat (zc : Array Value) (n : Nat) (hz : zc.toList = E.enc z) : (Builtin.zeroCells zc n).toList = (List.replicate n z).flatMap E.enc := by
 have hs : zc.size = E.k := by rw [<- Array.length_toList, hz, E.len]
 apply List.ext_getElem?
 intro j
 have hk := E.pos
 by_cases hj : j < n * E.k
 ·have hd := Nat.div_add_mod j E.k
  have hm := Nat.mod_lt j hk
  have hq : j / E.k < n := Nat.div_lt_of_lt_mul (by rw [Nat.mul_comm]; exact hj)
  have e1 : (List.replicate n z).flatMap E.enc = (List.replicate n z).flatMap E.enc := rfl
  rw [show j = (j / E.k) * E.k + j % E.k by rw [Nat.mul_comm]; omega, E.flat_get _ _ _ hm]
  simp only [List.getElem?_replicate, hq, if_true, Option.bind_some]
  simp only [Builtin.zeroCells, Array.toList_map, Array.toList_range, List.getElem?_map, hs]
  rw [List.getElem?_range (by rw [Nat.mul_comm]; omega)]
  simp only [Option.map_some]
  have hmm : (j / E.k * E.k + j % E.k) % E.k = j % E.k := by rw [Nat.mul_comm, Nat.mul_add_mod]; exact Nat.mod_eq_of_lt hm
  rw [hmm, <- hz, Array.getElem?_toList, getElem!_pos zc _ (by rw [hs]; exact hm), Array.getElem?_eq_getElem (by rw [hs]; exact hm)]
 ·rw [List.getElem?_eq_none (by simp [Builtin.zeroCells, hs]; omega), List.getElem?_eq_none (by rw [E.flat_len]; simp; omega)]
theorem own_fresh (l spare : List α) (hS : S w.heap.size) (hmax : l.length + spare.length <= maxLen) (cs : Array Value) (hcs : cs.toList = (l ++ spare).flatMap E.enc) :
 Own E e S (w.alloc (.cells cs e)) (.slice (some ⟨w.heap.size, 0, none⟩) l.length (l.length + spare.length)) l := by
 refine Own.mk (cur := cs) hS (heap_alloc_new w _) (by omega) hmax ?_ ?_
 ·rw [<- Array.length_toList, hcs, E.flat_len]; simp
 ·rw [hcs, <- E.flat_take]; simp
theorem own_lit (l : List α) (cs : Array Value) (hcs : cs.toList = l.flatMap E.enc) (n : Nat) (hn : n = l.length) (hS : S w.heap.size) (hm : n <= maxLen) :
 Own E e S (w.alloc (.cells cs e)) (.slice (some ⟨w.heap.size, 0, none⟩) n n) l := by
 subst hn
 have := own_fresh (E := E) (e := e) (S := S) (w := w) l [] hS (by simpa using hm) cs (by simpa using hcs)
 simpa using this
theorem run_append (T : ElemT P E t e z bytes) (ty : TypeId) {v x : Value} {l m : List α} {S2 : Nat -> Prop} (ho : Own E e S w v l) (hx : Sl E S2 w x m)
 (hS : S w.heap.size) (h63 : l.length + m.length <= maxLen) (hb : (l.length + m.length) * bytes <= 140737488355328) :
 ∃ v' w', (Builtin.append_ #[t, t] ty #[v, x]).run P w = .ok v' w' ∧ Own E e S w' v' (l ++ m) ∧ Keeps (fun g => v.ownBlock = some g) w w' ∧
   (∀ g, v'.ownBlock = some g -> v.ownBlock = some g ∨ w.heap.size <= g) := by
 obtain ⟨i, hi, hik, hib, zv, hz, hzc⟩ := T.info
 obtain ⟨p, c, rfl, hm⟩ := hx
 have h63' : ((l.length + m.length : Nat) : Int) <= 9223372036854775807 := by simp only [maxLen] at h63; omega
 have hKr : ∀ cs : Array Value, Keeps (fun g => v.ownBlock = some g) w (w.drew.alloc (.cells cs e)) := fun cs => ((Keeps.refl _ w).drew).alloc _
 -- the source's cells, at once and behind a draw
 have hsrc : ∀ w', (∀ a, w'.cell? a = w.cell? a) -> (Builtin.firstCells i.size m.length (.slice p m.length c)).run P w' = .ok (m.flatMap E.enc).toArray w' := by
  intro w' hw
  by_cases h0 : m.length = 0
  ·have : m = [] := List.eq_nil_of_length_eq_zero h0
   subst this
   cases p with
   | none => exact run_firstCells_none _ _ _ _ _
   | some a => exact run_firstCells_some w' i.size 0 a 0 c [] (by simp) (fun j v h => by simp at h)
  ·obtain ⟨g, off, rfl, _, hg, hc⟩ := hm.cells (by omega)
   refine run_firstCells_some w' i.size m.length _ _ _ _ (by rw [E.flat_len, hik]) (fun j u hu => ?_)
   rw [add_lit, hw, hc j (by have := (List.getElem?_eq_some_iff.1 hu).1; rw [E.flat_len] at this; exact this)]
   exact hu
 have hSrc : Src P i.size t (.slice p m.length c) m.length (m.flatMap E.enc) w :=
  ⟨.inl ⟨e, T.under⟩, fun _ => rfl, hsrc w (fun _ => rfl), hsrc w.drew (fun _ => rfl), by rw [E.flat_len, hik], E.flat_one m⟩
 have hgrow : ∀ base sLen sCap, l.length = sLen -> sCap < sLen + m.length ->
  (Builtin.firstCells i.size sLen (.slice base sLen sCap)).run P w.drew = .ok (l.flatMap E.enc).toArray w.drew ->
  ∃ v' w', (Builtin.append_ #[t, t] ty #[.slice base sLen sCap, .slice p m.length c]).run P w = .ok v' w' ∧ Own E e S w' v' (l ++ m) ∧ Keeps (fun g => v.ownBlock = some g) w w' ∧
    (∀ g, v'.ownBlock = some g -> v.ownBlock = some g ∨ w.heap.size <= g) := by
  intro base sLen sCap hl hlt hold
  subst hl
  have hr := run_append_grow_src (P := P) w t t ty e i zv T.under hi hz base l.length sCap (l.flatMap E.enc) hold _ m.length _ hSrc hlt h63' (growslice_fits hlt (by rw [hib]; exact hb))
  have hge := grownCap_ge w (l.length + m.length) sCap e
  have hle := grownCap_le_maxLen w (l.length + m.length) sCap e h63
  refine ⟨_, _, hr, ?_, hKr _, fun g hg => by simp [Value.ownBlock] at hg; right; omega⟩
  have hfr := own_fresh (E := E) (e := e) (S := S) (w := w.drew) (l ++ m) (List.replicate (grownCap w (l.length + m.length) sCap e - (l.length + m.length)) z) hS
   (by simp; omega) ((l.flatMap E.enc ++ m.flatMap E.enc).toArray ++ Builtin.zeroCells zv.cells (grownCap w (l.length + m.length) sCap e - (l.length + m.length)))
   (by simp [zeroCells_flat (E := E) zv.cells _ hzc])
  rw [show (l ++ m).length + (List.replicate (grownCap w (l.length + m.length) sCap e - (l.length + m.length)) z).length = grownCap w (l.length + m.length) sCap e by simp; omega] at hfr
  rw [show (l ++ m).length = l.length + m.length by simp] at hfr
  exact hfr
 rcases ho.cases with ⟨rfl, rfl⟩ | ⟨g, cap, cur, rfl, hSg, hg, hcap, hmax, hsz, htk⟩
 ·by_cases h0 : m.length = 0
  ·have : m = [] := List.eq_nil_of_length_eq_zero h0
   subst this
   refine ⟨.slice none 0 0, w, ?_, Own.nil E e S w, Keeps.refl _ w, fun g hg => .inl hg⟩
   have := hsrc w (fun _ => rfl)
   simp only [List.length_nil] at this ⊢
   simp [Builtin.append_, run_underlying T.under, sizeOf, typeInfo, hi, Builtin.lenOf, this]
  ·exact hgrow none 0 0 rfl (by simp; omega) (run_firstCells_none _ _ _ _ _)
 ·by_cases hroom : l.length + m.length <= cap
  ·have hr := run_append_room_src (P := P) w t t ty e i T.under hi g 0 l.length cap _ m.length (m.flatMap E.enc) hSrc hroom
    (fun j hj => by
      rw [E.flat_len] at hj
      have : (l.length + m.length) * E.k <= cap * E.k := Nat.mul_le_mul_right _ hroom
      rw [Nat.add_mul] at this
      rw [cell_of_row w g _ cur e (0, 0) hg, Array.getElem?_eq_getElem (by rw [hik, hsz]; omega)]; rfl)
    (fun j _ => frozen_of_row w g _ cur e hg)
   have hfit : l.length * E.k + (m.flatMap E.enc).length <= cur.size := by
    have : (l.length + m.length) * E.k <= cap * E.k := Nat.mul_le_mul_right _ hroom
    rw [Nat.add_mul] at this; rw [E.flat_len, hsz]; omega
   have hst1 := run_storeCells_at P g (l.length * E.k) e (m.flatMap E.enc) 0 cur w hg (by simpa using hfit) (E.flat_one m)
   have hst2 := run_storeCells_cells (P := P) g (l.length * E.k) (m.flatMap E.enc) 0 w
    (fun j hj => by rw [cell_of_row w g _ cur e (0, 0) hg, Array.getElem?_eq_getElem (by omega)]; rfl) (fun j _ => frozen_of_row w g _ cur e hg) (E.flat_one m)
   have hw : w.setCells g (0 + l.length * i.size) (m.flatMap E.enc) = w.setRow g (cur.toList.take (l.length * E.k) ++ m.flatMap E.enc ++ cur.toList.drop (l.length * E.k + (m.flatMap E.enc).length)).toArray := by
    rw [hik, Nat.zero_add]
    rw [hst2] at hst1
    simp only [Nat.add_zero] at hst1
    injection hst1
   rw [hw] at hr
   refine ⟨_, _, hr, ?_, ⟨rfl, rfl, rfl, by simp, fun k _ hk => setRow_other w g k _ (fun e => hk (by simp [Value.ownBlock, e]))⟩, fun g' hg' => .inl hg'⟩
   rw [show l.length + m.length = (l ++ m).length by simp]
   refine Own.mk hSg (setRow_heap w g cur _ e _ hg) (by simpa using hroom) hmax ?_ ?_
   ·have hL : cur.toList.length = cap * E.k := by rw [Array.length_toList]; exact hsz
    rw [List.size_toArray, List.length_append, List.length_append, List.length_take, List.length_drop]; omega
   ·rw [htk, <- E.flat_len, List.flatMap_append]
    simp only [List.append_assoc]
    rw [<- List.append_assoc]
    exact List.take_left
  ·refine hgrow _ _ _ rfl (by omega) (run_firstCells_some w.drew i.size l.length ⟨g, 0, none⟩ l.length cap _ (by rw [E.flat_len, hik]) (fun j u hu => ?_))
   rw [add_lit, World.cell?_drew, cell_of_row w g _ cur e (0, 0) hg, Nat.zero_add, <- hu, <- htk, List.getElem?_take, if_pos (by have := (List.getElem?_eq_some_iff.1 hu).1; rw [E.flat_len] at this; exact this)]
   simp
end
theorem run_copyK {α : Type} {E : Enc α} {P : Program} {e : TypeId} {i : TypeInfo} {w : World} (dT sT ty : TypeId) (hu : P.underlying dT = some (.slice e)) (hi : P.info? e = some i) (hik : i.size = E.k)
 (g o dLen dCap : Nat) (cur : Array Value) (t : TypeId) (hg : w.heap[g]? = some (.cells cur t (0, 0))) {S : Nat -> Prop} {p : Option Addr} {n c c' : Nat} {m : List α} (hn : m.length = Nat.min n dLen) (hs : SlAt E S w p c' m)
 (hfit : o + m.length * E.k <= cur.size) :
 (Builtin.copy_ #[dT, sT] ty #[.slice (some ⟨g, o, none⟩) dLen dCap, .slice p n c]).run P w =
   .ok (goInt m.length) (w.setRow g (cur.toList.take o ++ m.flatMap E.enc ++ cur.toList.drop (o + m.length * E.k)).toArray) := by
 have hlen := E.flat_len m
 have hst := run_storeCells_at P g o t (m.flatMap E.enc) 0 cur w hg (by rw [hlen]; simpa using hfit) (E.flat_one _)
 have hf : (Builtin.firstCells i.size m.length (.slice p n c)).run P w = .ok (m.flatMap E.enc).toArray w := by
  by_cases h0 : m.length = 0
  ·have : m = [] := List.eq_nil_of_length_eq_zero h0
   subst this
   cases p with
   | none => exact run_firstCells_none _ _ _ _ _
   | some a => exact run_firstCells_some w i.size 0 a _ c [] (by simp) (fun j v h => by simp at h)
  ·obtain ⟨g', off, rfl, _, _, hc⟩ := hs.cells (Nat.pos_of_ne_zero h0)
   refine run_firstCells_some w i.size _ _ _ _ _ (by rw [hlen, hik]) (fun j u hu => ?_)
   have hj := (List.getElem?_eq_some_iff.1 hu).1
   rw [hlen] at hj
   rw [add_lit, hc j hj, <- hu]
 simp only [Nat.add_zero] at hst
 rw [hlen] at hst
 simp [Builtin.copy_, run_underlying hu, Builtin.lenOf, sizeOf, typeInfo, hi, <- hn, hf, hst]
theorem wpl_copy {α : Type} {E : Enc α} {P : Program} {e : TypeId} {i : TypeInfo} {w : World} {ops : Array Oper} {Q : Exit -> Act -> World -> Prop} {rest : List Oper} {op : Oper} {a : Act}
 (hgd : op.guard = none) (d s : Operand) (dT sT : TypeId) (ho : op.op = .call { callee := .builtin .copy, args := #[d, s], argTypes := #[dT, sT] })
 (hu : P.underlying dT = some (.slice e)) (hi : P.info? e = some i) (hik : i.size = E.k)
 (g o dLen dCap : Nat) (hd : a.eval d = .slice (some ⟨g, o, none⟩) dLen dCap) (cur : Array Value) (t : TypeId) (hg : w.heap[g]? = some (.cells cur t (0, 0)))
 {S : Nat -> Prop} {p : Option Addr} {c c' n : Nat} {m : List α} (hs : a.eval s = .slice p n c) (hm : SlAt E S w p c' m) (hn : m.length = Nat.min n dLen) (hfit : o + m.length * E.k <= cur.size)
 (h : wpList P ops Q rest (a.put op.dst (goInt m.length)) (w.setRow g (cur.toList.take o ++ (m.flatMap E.enc ++ cur.toList.drop (o + m.length * E.k))).toArray)) :
 wpList P ops Q (op :: rest) a w := by
 refine wpList_plain hgd fun K hK => ?_
 have hrun := run_copyK (E := E) (P := P) dT sT op.type hu hi hik g o dLen dCap cur t hg (c := c) hn hm hfit
 unfold Oper.wp
 simp [execOp, ho, resolve, invoke, builtin, hd, hs, hrun, Result.andThen]
 exact hK _ _ h
theorem run_append_inplace {α : Type} {E : Enc α} {P : Program} {t e : TypeId} {z : α} {bytes : Nat} {w : World} (T : ElemT P E t e z bytes) (ty : TypeId) (g n c : Nat) (cur : Array Value)
 (hg : w.heap[g]? = some (.cells cur e (0, 0))) (hcs : cur.size = c * E.k) {S : Nat -> Prop} {p : Option Addr} {c' : Nat} {m : List α} (hm : SlAt E S w p c' m) (hroom : n + m.length <= c) :
 (Builtin.append_ #[t, t] ty #[.slice (some ⟨g, 0, none⟩) n c, .slice p m.length c']).run P w =
   .ok (.slice (some ⟨g, 0, none⟩) (n + m.length) c) (w.setRow g (cur.toList.take (n * E.k) ++ m.flatMap E.enc ++ cur.toList.drop (n * E.k + m.length * E.k)).toArray) := by
 obtain ⟨i, hi, hik, hib, zv, hz, hzc⟩ := T.info
 have hfl := E.flat_len m
 have hsrc : ∀ w', (∀ a, w'.cell? a = w.cell? a) -> (Builtin.firstCells i.size m.length (.slice p m.length c')).run P w' = .ok (m.flatMap E.enc).toArray w' := by
  intro w' hw
  by_cases h0 : m.length = 0
  ·have : m = [] := List.eq_nil_of_length_eq_zero h0
   subst this
   cases p with
   | none => exact run_firstCells_none _ _ _ _ _
   | some a => exact run_firstCells_some w' i.size 0 a 0 c' [] (by simp) (fun j v h => by simp at h)
  ·obtain ⟨g, off, rfl, _, hg, hc⟩ := hm.cells (by omega)
   refine run_firstCells_some w' i.size m.length _ _ _ _ (by rw [hfl, hik]) (fun j u hu => ?_)
   rw [add_lit, hw, hc j (by have := (List.getElem?_eq_some_iff.1 hu).1; rw [hfl] at this; exact this)]
   exact hu
 have hSrc : Src P i.size t (.slice p m.length c') m.length (m.flatMap E.enc) w :=
  ⟨.inl ⟨e, T.under⟩, fun _ => rfl, hsrc w (fun _ => rfl), hsrc w.drew (fun _ => rfl), by rw [hfl, hik], E.flat_one m⟩
 have hfit : n * E.k + m.length * E.k <= c * E.k := by rw [<- Nat.add_mul]; exact Nat.mul_le_mul_right _ hroom
 have hr := run_append_room_src (P := P) w t t ty e i T.under hi g 0 n c _ m.length (m.flatMap E.enc) hSrc hroom
  (fun j hj => by
    rw [hfl] at hj
    rw [cell_of_row w g _ cur e (0, 0) hg, Array.getElem?_eq_getElem (by rw [hik, hcs]; omega)]; rfl)
  (fun j _ => frozen_of_row w g _ cur e hg)
 have hst1 := run_storeCells_at P g (n * E.k) e (m.flatMap E.enc) 0 cur w hg (by rw [hfl, hcs]; simpa using hfit) (E.flat_one m)
 have hst2 := run_storeCells_cells (P := P) g (n * E.k) (m.flatMap E.enc) 0 w
  (fun j hj => by rw [hfl] at hj; rw [cell_of_row w g _ cur e (0, 0) hg, Array.getElem?_eq_getElem (by omega)]; rfl) (fun j _ => frozen_of_row w g _ cur e hg) (E.flat_one m)
 rw [hst2] at hst1
 simp only [Nat.add_zero] at hst1
 rw [hfl] at hst1
 rw [hr, hik, Nat.zero_add]
 injection hst1 with _ h
 rw [h]
theorem run_clear {α : Type} {E : Enc α} {P : Program} {t e : TypeId} {z : α} {bytes : Nat} {w : World} (T : ElemT P E t e z bytes) (ty : TypeId) (g o n c : Nat) (cur : Array Value)
 (hg : w.heap[g]? = some (.cells cur e (0, 0))) (hfit : o + n * E.k <= cur.size) (hn : 0 < n) :
 (Builtin.clear_ #[t] ty #[.slice (some ⟨g, o, none⟩) n c]).run P w =
   .ok (.tuple #[]) (w.setRow g (cur.toList.take o ++ (List.replicate n z).flatMap E.enc ++ cur.toList.drop (o + n * E.k)).toArray) := by
 obtain ⟨i, hi, hik, hib, zv, hz, hzc⟩ := T.info
 have hfl : ((List.replicate n z).flatMap E.enc).length = n * E.k := by rw [E.flat_len]; simp
 have hst := run_storeCells_at P g o e ((List.replicate n z).flatMap E.enc) 0 cur w hg (by rw [hfl]; simpa using hfit) (E.flat_one _)
 simp only [Nat.add_zero] at hst
 rw [hfl] at hst
 have hzl := zeroCells_flat (E := E) zv.cells n hzc
 cases n with
 | zero => omega
 | succ n =>
   simp only [Builtin.clear_, run_underlying T.under, Sem.run_bind, Sem.run_pure, Result.andThen, List.getElem?_toArray, List.getElem?_cons_zero]
   simp [zeroValue, typeInfo, hi, hz, Sem.run_bind, Result.andThen, hzl, hst]
theorem wpl_clear {P : Program} {w : World} {ops : Array Oper} {Q : Exit -> Act -> World -> Prop} {rest : List Oper} {o : Oper} {a : Act} (hgd : o.guard = none) (s : Operand) (t : TypeId)
 (ho : o.op = .call { callee := .builtin .clear, args := #[s], argTypes := #[t] }) (vs : Value) (hvs : a.eval s = vs) (v' : Value) (w' : World)
 (hr : (Builtin.clear_ #[t] o.type #[vs]).run P w = .ok v' w') (h : wpList P ops Q rest (a.put o.dst v') w') : wpList P ops Q (o :: rest) a w := by
 refine wpList_plain hgd fun K hK => ?_
 unfold Oper.wp execOp
 simp only [ho, resolve, invoke, builtin, Sem.run_bind, Sem.run_pure, Result.andThen_ok, List.map_toArray, List.map_cons, List.map_nil, hvs, hr]
 exact hK _ _ h
theorem splice_two {β : Type} (C A V B C2 C3 : List β) (hA : C.take A.length = A) (hl : A.length + V.length + B.length <= C.length)
 (h2 : C2 = C.take A.length ++ (V ++ C.drop (A.length + V.length))) (h3 : C3 = C2.take (A.length + V.length) ++ (B ++ C2.drop (A.length + V.length + B.length))) :
 C3.take (A.length + V.length + B.length) = A ++ (V ++ B) ∧ C3.length = C.length := by
 rw [hA] at h2
 have h2l : C2.length = C.length := by rw [h2]; simp; omega
 have e : C2.take (A.length + V.length) = A ++ V := by
  rw [h2, <- List.append_assoc, <- List.length_append]; exact List.take_left
 rw [e] at h3
 refine ⟨?_, by rw [h3]; simp; omega⟩
 rw [h3, <- List.append_assoc, <- List.append_assoc, <- List.length_append, <- List.length_append]
 exact List.take_left
theorem splice_back {β : Type} (C A V B C2 C3 : List β) (hA : C.take A.length = A) (hl : A.length + V.length + B.length <= C.length)
 (h2 : C2 = C.take (A.length + V.length) ++ (B ++ C.drop (A.length + V.length + B.length))) (h3 : C3 = C2.take A.length ++ (V ++ C2.drop (A.length + V.length))) :
 C3.take (A.length + V.length + B.length) = A ++ (V ++ B) ∧ C3.length = C.length := by
 have h2l : C2.length = C.length := by rw [h2]; simp; omega
 have hAV : (C.take (A.length + V.length)).length = A.length + V.length := by simp; omega
 have e : C2.take A.length = A := by
  rw [h2, List.take_append_of_le_length (by rw [hAV]; omega), List.take_take, Nat.min_eq_left (by omega), hA]
 have e2 : C2.drop (A.length + V.length) = B ++ C.drop (A.length + V.length + B.length) := by
  rw [h2, <- hAV]; rw [hAV]; conv => lhs; arg 1; rw [<- hAV]
  exact List.drop_left
 rw [e, e2] at h3
 refine ⟨?_, by rw [h3]; simp; omega⟩
 rw [h3, <- List.append_assoc, <- List.append_assoc, <- List.append_assoc, <- List.length_append, <- List.length_append]
 exact List.take_left
theorem Keeps.setRow {F : Nat -> Prop} {a w : World} (h : Keeps F a w) {g : Nat} (hg : F g ∨ a.heap.size <= g) (cs : Array Value) : Keeps F a (w.setRow g cs) :=
 ⟨h.os, h.tape, h.output, by have := h.size; simpa using this, fun k hk hn => by
   rw [setRow_other w g k cs (by rcases hg with hg | hg; · intro e; subst e; exact hn hg
                                 ·omega)]; exact h.block k hk hn⟩
theorem run_slice_l {P : Program} (t e : TypeId) (size : Nat) (ht : P.underlying t = some (.slice e)) (hz : (P.info? e).map (·.size) = some size) (p : Option Addr) (n c i : Nat) (h1 : i <= n) (w : World) (hc : n <= 9223372036854775807) :
 (Instr.slice t (.slice p n c) (some (.int .i64 i)) none none).run P w = .ok (.slice (subAt size p c i) (n - i) (c - i)) w := by
 cases hi : P.info? e with
 | none => rw [hi] at hz; cases hz
 | some inf =>
   rw [hi] at hz
   have hs : inf.size = size := by simpa using hz
   simp [Instr.slice, Instr.sliceBounds, Instr.sliceBound, asIntOf, run_underlying ht, sizeOf, typeInfo, hi, hs, subAt, h1]
theorem run_slice_h {P : Program} (t e : TypeId) (ht : P.underlying t = some (.slice e)) (hz : ((P.info? e).map (·.size)).isSome = true) (g off n c k : Nat) (h1 : k <= c) (w : World) (hc : c <= 9223372036854775807) :
 (Instr.slice t (.slice (some ⟨g, off, none⟩) n c) none (some (.int .i64 k)) none).run P w = .ok (.slice (some ⟨g, off, none⟩) k c) w := by
 cases hi : P.info? e with
 | none => rw [hi] at hz; cases hz
 | some inf => simp [Instr.slice, Instr.sliceBounds, Instr.sliceBound, asIntOf, run_underlying ht, sizeOf, typeInfo, hi, h1, add_lit]
theorem wp_scope_goto {P : Program} {a : Act} {w : World} {Q : Exit -> Act -> World -> Prop} {c r : Code} (l : Nat) (J : Act -> World -> Prop) (μ : Act -> World -> Nat) (hf : findLabel c l = some (Code.skip.seq r))
 (first : (∀ a w, J a w -> r.wp P (Exit.jump l J Q) a w) -> c.wp P (Exit.jump l J Q) a w)
 (pass : ∀ a w, J a w -> r.wp P (Exit.jump l (fun a' w' => J a' w' ∧ μ a' w' < μ a w) Q) a w) : (Code.scope c).wp P Q a w := by
 refine wp_scope_jumps l J μ hf (first fun a w hJ => ?_) (fun a w hJ => wp_seq (wp_skip ?_))
 ·show r.wp P (Exit.jump l J Q) a w
  refine wp_mono (pass a w hJ) fun e a w h => ?_
  cases e <;> first | exact h | exact ⟨h.1, h.2.1⟩
 ·exact pass a w hJ
theorem wpl_append {α : Type} {E : Enc α} {P : Program} {t e : TypeId} {z : α} {bytes : Nat} {S : Nat -> Prop} {w : World} {ops : Array Oper} {Q : Exit -> Act -> World -> Prop} {rest : List Oper} {o : Oper} {a : Act}
 (hgd : o.guard = none) (s x : Operand) (ho : o.op = .call { callee := .builtin .append, args := #[s, x], argTypes := #[t, t] }) (T : ElemT P E t e z bytes)
 {v xv : Value} {l m : List α} {S2 : Nat -> Prop} (hown : Own E e S w v l) (hsl : Sl E S2 w xv m) (hs : a.eval s = v) (hx : a.eval x = xv) (hS : S w.heap.size)
 (h63 : l.length + m.length <= maxLen) (hb : (l.length + m.length) * bytes <= 140737488355328)
 (h : ∀ v' w', Own E e S w' v' (l ++ m) -> Keeps (fun g => v.ownBlock = some g) w w' -> (∀ g, v'.ownBlock = some g -> v.ownBlock = some g ∨ w.heap.size <= g) -> wpList P ops Q rest (a.put o.dst v') w') :
 wpList P ops Q (o :: rest) a w := by
 obtain ⟨v', w', hr, h1, h2, h3⟩ := run_append T o.type hown hsl hS h63 hb
 exact Lib.wpList_append_run w hgd s x t t ho v xv hs hx v' w' hr (h v' w' h1 h2 h3)
end Go.Proofs.YtimidmogcbapnaaGreatDoor
namespace Go.Proofs.YtimidmogcbapnaaGreatDoor
abbrev Ent := ByteArray × Int
def bLt (a b : ByteArray) : Bool := decide (a.data.toList < b.data.toList)
theorem bLt_irrefl (a : ByteArray) : bLt a a = false := by simp [bLt, List.lt_irrefl]
theorem bLt_trans {a b c : ByteArray} (h : bLt a b = true) (k : bLt b c = true) : bLt a c = true := by
 simp only [bLt, decide_eq_true_eq] at *; exact List.lt_trans h k
theorem bLt_asymm {a b : ByteArray} (h : bLt a b = true) : bLt b a = false := by
 cases hb : bLt b a with
 | false => rfl
 | true => have := bLt_trans h hb; rw [bLt_irrefl] at this; cases this
theorem eq_of_data {a b : ByteArray} (h : a.data.toList = b.data.toList) : a = b := by
 cases a; cases b; congr; exact Array.toList_inj.1 h
theorem bLt_total {a b : ByteArray} (h : bLt a b = false) (k : bLt b a = false) : a = b := by
 simp only [bLt, decide_eq_false_iff_not, List.not_lt] at h k
 exact eq_of_data (List.le_antisymm k h)
theorem cmp_lists (a b : List UInt8) : (Lib.compareBytes a b < 0 ↔ a < b) ∧ (Lib.compareBytes a b = 0 ↔ a = b) := by
 induction a generalizing b with
 | nil =>
   cases b with
   | nil => simp [Lib.compareBytes]
   | cons b bs => simp [Lib.compareBytes]
 | cons a la ih =>
   cases b with
   | nil => simp [Lib.compareBytes]
   | cons b bs =>
     have ih := ih bs
     unfold Lib.compareBytes
     by_cases h1 : a < b
     ·have hne : a ≠ b := by intro e; subst e; exact absurd h1 (UInt8.lt_irrefl _)
      simp [h1, List.cons_lt_cons_iff, hne]
     ·by_cases h2 : b < a
      ·have hne : a ≠ b := by intro e; subst e; exact absurd h2 (UInt8.lt_irrefl _)
       simp [h1, h2, List.cons_lt_cons_iff, hne]
      ·have he : a = b := UInt8.le_antisymm (UInt8.not_lt.1 h2) (UInt8.not_lt.1 h1)
       subst he
       simp [List.cons_lt_cons_iff, ih.1, ih.2]
theorem cmp_neg0 (a b : ByteArray) : decide (Lib.compareBytes a.data.toList b.data.toList < 0) = bLt a b := by
 simp only [bLt, (cmp_lists a.data.toList b.data.toList).1]
theorem cmp_zero0 (a b : ByteArray) : Lib.compareBytes a.data.toList b.data.toList = 0 ↔ a = b :=
 (cmp_lists a.data.toList b.data.toList).2.trans ⟨eq_of_data, fun h => by rw [h]⟩
theorem toList_eq (a b : ByteArray) : (a.toList == b.toList) = decide (a = b) := by
 rw [Bool.eq_iff_iff]; simp only [beq_iff_eq, decide_eq_true_eq, Lib.toList_data]
 exact ⟨eq_of_data, fun h => by rw [h]⟩
def Rising (l : List Ent) : Prop := l.Pairwise (fun a b => bLt a.1 b.1 = true)
def lb (l : List Ent) (name : ByteArray) : Nat := (l.takeWhile fun e => bLt e.1 name).length
def entGet (l : List Ent) (name : ByteArray) : Option Int := (l.find? fun e => decide (e.1 = name)).map (·.2)
def entHas (l : List Ent) (name : ByteArray) : Bool := l.any fun e => decide (e.1 = name)
def entDel (l : List Ent) (name : ByteArray) : List Ent := l.filter fun e => !decide (e.1 = name)
def entSet (l : List Ent) (name : ByteArray) (n : Int) : List Ent := l.map fun e => if e.1 = name then (e.1, n) else e
def entPut (l : List Ent) (name : ByteArray) (n : Int) : List Ent := l.filter (fun e => bLt e.1 name) ++ [(name, n)] ++ l.filter (fun e => bLt name e.1)
def bCmp (a b : ByteArray) : Int := Lib.compareBytes a.data.toList b.data.toList
def bIdx (s : ByteArray) (c : UInt8) : Int := Lib.indexByte s.data.toList c
def entSize (l : List Ent) : Nat := (l.map fun e => e.1.size).sum
def hasB (s : ByteArray) (c : UInt8) : Bool := s.data.toList.contains c
def okName (s : ByteArray) : Bool :=
 decide (1 <= s.size) && decide (s.size <= 255) && s.data.toList != [46] && s.data.toList != [46, 46] && !hasB s 47 && !hasB s 0
def putErr (l : List Ent) (name : ByteArray) : Int :=
 if 255 < name.size then 18 else if okName name = false then 11 else if entHas l name then 13 else 0
def putTo (l : List Ent) (name : ByteArray) (n : Int) : List Ent := if putErr l name = 0 then entPut l name n else l
def hasErr (l : List Ent) (name : ByteArray) : Int := if entHas l name then 0 else 12
theorem indexByte_neg (l : List UInt8) (c : UInt8) : decide (Lib.indexByte l c < 0) = !l.contains c := by
 have hg := Lib.indexByte_ge
 induction l with
 | nil => rfl
 | cons b l ih =>
   unfold Lib.indexByte
   by_cases hb : (b == c) = true
   ·have : b = c := by simpa using hb
    subst this
    simp
   ·have hne : ¬ c = b := fun e => hb (by simp [e])
    have ih' : (Lib.indexByte l c < 0) ↔ ¬ c ∈ l := by
     have := ih; rw [Bool.eq_iff_iff] at this; simpa using this
    have h1 := hg l c
    simp only [hb, Bool.false_eq_true, if_false]
    rw [Bool.eq_iff_iff]
    by_cases h2 : Lib.indexByte l c = -1
    ·have : ¬ c ∈ l := ih'.1 (by omega)
     simp [h2, hne, this]
    ·have : c ∈ l := Decidable.byContradiction fun h => by have := ih'.2 h; omega
     simp [h2, hne, this]; omega
theorem bCmp_neg (a b : ByteArray) : bCmp a b < 0 ↔ bLt a b = true := by
 have := cmp_neg0 a b; rw [Bool.eq_iff_iff] at this; simpa [bCmp] using this
theorem bCmp_zero (a b : ByteArray) : bCmp a b = 0 ↔ a = b := cmp_zero0 a b
theorem bIdx_neg (s : ByteArray) (c : UInt8) : bIdx s c < 0 ↔ hasB s c = false := by
 have := indexByte_neg s.data.toList c; rw [Bool.eq_iff_iff] at this; simpa [bIdx, hasB] using this
theorem byte_eq (x : UInt8) (c : Int) (h0 : 0 <= c) (h1 : c < 256) : ((x.toNat : Int) == c) = decide (x = c.toNat.toUInt8) := by
 have := x.toNat_lt
 rw [Bool.eq_iff_iff, beq_iff_eq, decide_eq_true_eq]
 constructor
 ·intro h
  apply UInt8.toNat_inj.1
  have e : c.toNat.toUInt8.toNat = c.toNat % 256 := by simp
  rw [e, <- h, Int.toNat_natCast]
  omega
 ·intro h
  rw [h]
  have e : c.toNat.toUInt8.toNat = c.toNat % 256 := by simp
  rw [e]; omega
theorem toList_nil (s : ByteArray) : s.toList = [] ↔ s.size = 0 := by
 rw [Lib.toList_data, Lib.size_eq, List.length_eq_zero_iff]
theorem okName_eq (s : ByteArray) : okName s = (!s.toList.isEmpty && decide ((s.size : Int) <= 255) && !(s.toList == [46]) && !(s.toList == [46, 46]) && decide (bIdx s 47 < 0) && decide (bIdx s 0 < 0)) := by
 have h0 := toList_nil s
 have h1 : (s.toList.isEmpty = true) ↔ s.size = 0 := by rw [List.isEmpty_iff]; exact h0
 rw [Bool.eq_iff_iff]
 simp only [okName, Bool.and_eq_true, decide_eq_true_eq, bIdx_neg, Bool.not_eq_true', beq_eq_false_iff_ne, bne_iff_ne, Lib.toList_data] at *
 have h2 : (s.data.toList.isEmpty = false) ↔ ¬ s.size = 0 := by rw [<- h1]; simp
 rw [h2]
 constructor
 ·rintro ⟨⟨⟨⟨⟨a, b⟩, c⟩, d⟩, e⟩, f⟩; exact ⟨⟨⟨⟨⟨by omega, by omega⟩, c⟩, d⟩, e⟩, f⟩
 ·rintro ⟨⟨⟨⟨⟨a, b⟩, c⟩, d⟩, e⟩, f⟩; exact ⟨⟨⟨⟨⟨by omega, by omega⟩, c⟩, d⟩, e⟩, f⟩
/-! ### what a rising list gives -/
theorem Rising.get {l : List Ent} (h : Rising l) {i j : Nat} {x y : Ent} (hi : l[i]? = some x) (hj : l[j]? = some y) (hij : i < j) : bLt x.1 y.1 = true := by
 obtain ⟨hi1, hi2⟩ := List.getElem?_eq_some_iff.1 hi
 obtain ⟨hj1, hj2⟩ := List.getElem?_eq_some_iff.1 hj
 have := List.pairwise_iff_getElem.1 h i j hi1 hj1 hij
 rw [hi2, hj2] at this; exact this
theorem lb_unique {l : List Ent} {name : ByteArray} (i : Nat) (hi : i <= l.length) (h1 : ∀ j x, j < i -> l[j]? = some x -> bLt x.1 name = true) (h2 : ∀ x, l[i]? = some x -> bLt x.1 name = false) : lb l name = i := by
 unfold lb
 induction l generalizing i with
 | nil => simp at hi; subst hi; rfl
 | cons a l ih =>
   cases i with
   | zero =>
     have := h2 a rfl
     simp [List.takeWhile_cons, this]
   | succ i =>
     have ha := h1 0 a (by omega) rfl
     rw [List.takeWhile_cons, ha]
     simp only [if_true, List.length_cons]
     congr 1
     exact ih i (by simpa using hi) (fun j x hj hx => h1 (j + 1) x (by omega) (by simpa using hx)) (fun x hx => h2 x (by simpa using hx))
theorem lb_le (l : List Ent) (name : ByteArray) : lb l name <= l.length := (List.takeWhile_prefix _).length_le
theorem lb_before {l : List Ent} {name : ByteArray} {j : Nat} {x : Ent} (hj : j < lb l name) (hx : l[j]? = some x) : bLt x.1 name = true := by
 unfold lb at hj
 induction l generalizing j with
 | nil => simp at hj
 | cons a l ih =>
   by_cases ha : bLt a.1 name = true
   ·rw [List.takeWhile_cons, if_pos ha] at hj
    cases j with
    | zero => simp at hx; subst hx; exact ha
    | succ j => exact ih (by simpa using hj) (by simpa using hx)
   ·rw [List.takeWhile_cons, if_neg ha] at hj; simp at hj
theorem lb_at {l : List Ent} {name : ByteArray} {x : Ent} (hx : l[lb l name]? = some x) : bLt x.1 name = false := by
 unfold lb at hx
 induction l with
 | nil => simp at hx
 | cons a l ih =>
   by_cases ha : bLt a.1 name = true
   ·rw [List.takeWhile_cons, if_pos ha] at hx; exact ih (by simpa using hx)
   ·rw [List.takeWhile_cons, if_neg ha] at hx; simp at hx; subst hx; simpa using ha
theorem lb_has {l : List Ent} (h : Rising l) (name : ByteArray) : entHas l name = match l[lb l name]? with | some x => decide (x.1 = name) | none => false := by
 rw [Bool.eq_iff_iff]
 simp only [entHas, List.any_eq_true, decide_eq_true_eq]
 constructor
 ·rintro ⟨x, hx, rfl⟩
  obtain ⟨j, hj⟩ := List.mem_iff_getElem?.1 hx
  have hle : lb l x.1 <= j := Nat.le_of_not_lt fun hlt => by have := lb_before hlt hj; rw [bLt_irrefl] at this; cases this
  have hjl := (List.getElem?_eq_some_iff.1 hj).1
  obtain ⟨y, hy⟩ : ∃ y, l[lb l x.1]? = some y := ⟨_, List.getElem?_eq_getElem (by omega)⟩
  rw [hy]
  simp only [decide_eq_true_eq]
  by_cases he : lb l x.1 = j
  ·rw [he] at hy; rw [hj] at hy; cases hy; rfl
  ·have h1 := h.get hy hj (by omega)
   have h2 := lb_at hy
   rw [h1] at h2; cases h2
 ·intro hm
  cases hl : l[lb l name]? with
  | none => rw [hl] at hm; cases hm
  | some x => rw [hl] at hm; exact ⟨x, List.mem_of_getElem? hl, by simpa using hm⟩
theorem lb_split {l : List Ent} (h : Rising l) (name : ByteArray) : l.take (lb l name) = l.filter (fun e => bLt e.1 name) ∧ l.drop (lb l name) = l.filter (fun e => !bLt e.1 name) := by
 unfold lb
 induction l with
 | nil => simp
 | cons a l ih =>
   have ih := ih (List.Pairwise.of_cons h)
   have hall := (List.pairwise_cons.1 h).1
   by_cases ha : bLt a.1 name = true
   ·simp only [List.takeWhile_cons, ha, if_true, List.length_cons, List.take_succ_cons, List.drop_succ_cons, List.filter_cons, Bool.not_true, Bool.false_eq_true, if_false]
    exact ⟨by rw [ih.1], ih.2⟩
   ·have hno : ∀ x ∈ l, bLt x.1 name = false := fun x hx => by
     cases hc : bLt x.1 name with
     | false => rfl
     | true => exact absurd (bLt_trans (hall x hx) hc) ha
    have e1 : l.filter (fun e => bLt e.1 name) = [] := List.filter_eq_nil_iff.2 fun x hx => by rw [hno x hx]; simp
    have e2 : l.filter (fun e => !bLt e.1 name) = l := List.filter_eq_self.2 fun x hx => by rw [hno x hx]; rfl
    simp [List.takeWhile_cons, ha, List.filter_cons, e1, e2]
theorem ne_of_lt {a b : ByteArray} (h : bLt a b = true) : a ≠ b := fun e => by subst e; rw [bLt_irrefl] at h; cases h
theorem put_at {l : List Ent} (h : Rising l) (name : ByteArray) (n : Int) (hno : entHas l name = false) : l.take (lb l name) ++ (name, n) :: l.drop (lb l name) = entPut l name n := by
 obtain ⟨h1, h2⟩ := lb_split h name
 rw [h1, h2]
 unfold entPut
 rw [List.append_assoc]
 congr 1
 rw [List.singleton_append]; congr 1
 refine List.filter_congr fun x hx => ?_
 have hne : x.1 ≠ name := fun e => by
  have : entHas l name = true := List.any_eq_true.2 ⟨x, hx, by simp [e]⟩
  rw [this] at hno; cases hno
 cases hc : bLt x.1 name with
 | true => rw [bLt_asymm hc]; rfl
 | false =>
   cases hd : bLt name x.1 with
   | true => rfl
   | false => exact absurd (bLt_total hc hd) hne
theorem Rising.filter {l : List Ent} (h : Rising l) (p : Ent -> Bool) : Rising (l.filter p) := List.Pairwise.filter _ h
theorem Rising.put {l : List Ent} (h : Rising l) (name : ByteArray) (n : Int) : Rising (entPut l name n) := by
 unfold entPut Rising
 rw [List.append_assoc, List.pairwise_append]
 refine ⟨h.filter _, ?_, ?_⟩
 ·simp only [List.singleton_append, List.pairwise_cons]
  exact ⟨fun x hx => (by simpa using (List.mem_filter.1 hx).2), h.filter _⟩
 ·intro x hx y hy
  have hx := (List.mem_filter.1 hx).2
  simp only [List.singleton_append, List.mem_cons] at hy
  rcases hy with rfl | hy
  ·exact hx
  ·exact bLt_trans hx (by simpa using (List.mem_filter.1 hy).2)
theorem Rising.del {l : List Ent} (h : Rising l) (name : ByteArray) : Rising (entDel l name) := h.filter _
theorem Rising.set {l : List Ent} (h : Rising l) (name : ByteArray) (n : Int) : Rising (entSet l name n) := by
 unfold entSet Rising
 rw [List.pairwise_map]
 refine h.imp fun {a b} hab => ?_
 split <;> split <;> exact hab
theorem del_at {l : List Ent} (h : Rising l) (name : ByteArray) (hyes : entHas l name = true) : l.take (lb l name) ++ l.drop (lb l name + 1) = entDel l name := by
 rw [lb_has h] at hyes
 cases hl : l[lb l name]? with
 | none => rw [hl] at hyes; cases hyes
 | some x =>
   rw [hl] at hyes
   have hx : x.1 = name := by simpa using hyes
   have hlt := (List.getElem?_eq_some_iff.1 hl).1
   have hsplit : l = l.take (lb l name) ++ x :: l.drop (lb l name + 1) := by
    conv => lhs; rw [<- List.take_append_drop (lb l name) l, List.drop_eq_getElem_cons hlt]
    rw [(List.getElem?_eq_some_iff.1 hl).2]
   have hp := h
   unfold Rising at hp
   rw [hsplit, List.pairwise_append, List.pairwise_cons] at hp
   obtain ⟨_, ⟨ha, _⟩, hb⟩ := hp
   conv => rhs; rw [hsplit]
   unfold entDel
   rw [List.filter_append, List.filter_cons_of_neg (by simp [hx])]
   rw [List.filter_eq_self.2 (fun y hy => by have := ne_of_lt (hb y hy x (by simp)); rw [hx] at this; simpa using this)]
   rw [List.filter_eq_self.2 (fun y hy => by have := ne_of_lt (ha y hy); rw [hx] at this; simpa using (Ne.symm this))]
theorem set_at {l : List Ent} (h : Rising l) (name : ByteArray) (n : Int) {x : Ent} (hl : l[lb l name]? = some x) (hx : x.1 = name) : l.set (lb l name) (x.1, n) = entSet l name n := by
 apply List.ext_getElem?
 intro j
 unfold entSet
 rw [List.getElem?_map, List.getElem?_set]
 have hlt := (List.getElem?_eq_some_iff.1 hl).1
 by_cases hj : lb l name = j
 ·subst hj
  rw [if_pos rfl, if_pos hlt, hl]; simp [hx]
 ·rw [if_neg hj]
  cases hy : l[j]? with
  | none => rfl
  | some y =>
    have hne : y.1 ≠ name := by
     rcases Nat.lt_or_gt_of_ne hj with hlt' | hlt'
     ·have := ne_of_lt (h.get hl hy hlt'); rw [hx] at this; exact this.symm
     ·have := ne_of_lt (h.get hy hl hlt'); rw [hx] at this; exact this
    simp [hne]
theorem get_at {l : List Ent} (h : Rising l) (name : ByteArray) : entGet l name = match l[lb l name]? with | some x => if x.1 = name then some x.2 else none | none => none := by
 cases hh : entHas l name with
 | false =>
   have hn : l.find? (fun e => decide (e.1 = name)) = none := by
    rw [List.find?_eq_none]; intro x hx hc
    have : entHas l name = true := List.any_eq_true.2 ⟨x, hx, hc⟩
    rw [this] at hh; cases hh
   rw [lb_has h] at hh
   unfold entGet; rw [hn]
   cases hl : l[lb l name]? with
   | none => rfl
   | some x => rw [hl] at hh; simp at hh; simp [hh]
 | true =>
   rw [lb_has h] at hh
   cases hl : l[lb l name]? with
   | none => rw [hl] at hh; cases hh
   | some x =>
     rw [hl] at hh
     have hx : x.1 = name := by simpa using hh
     simp only [hx, if_true]
     unfold entGet
     have : l.find? (fun e => decide (e.1 = name)) = some x := by
      rw [List.find?_eq_some_iff_getElem]
      have hlt := (List.getElem?_eq_some_iff.1 hl)
      refine ⟨by simp [hx], lb l name, hlt.1, hlt.2, fun j hj => ?_⟩
      have hltl := hlt.1
      have := ne_of_lt (lb_before hj (List.getElem?_eq_getElem (by omega)))
      simpa using this
     rw [this]; rfl
end Go.Proofs.YtimidmogcbapnaaGreatDoor
namespace Go.Proofs.YtimidmogcbapnaaGreatDoor
open Go.RowKit
set_option maxHeartbeats 400000 in
theorem cmpstr_any (a b : ByteArray) (w : World) :
 Calls Tryz.prog 172 #[.string a, .string b] w fun e w' => e = .returned (.int .i64 (bCmp a b)) ∧ w = w' := by
 go_enter Tryz.func172, Tryz.ntmps172
 go_wp2
 rw [run_callFunc_extern Tryz.func189 (by kernel_rfl) (by kernel_rfl) (by kernel_rfl) (e := Extern.BytealgCompare.compare) (by kernel_rfl), Lib.run_compareString]
 simp only [Result.andThen]
 rw [Oper.upon_value]
 go_wp2
 go_ret
 exact ⟨rfl, rfl⟩
set_option maxHeartbeats 400000 in
theorem cmp_any (a b : ByteArray) (w : World) :
 Calls Tryz.prog 149 #[.string a, .string b] w fun e w' => e = .returned (.int .i64 (bCmp a b)) ∧ w = w' := by
 go_enter Tryz.func149, Tryz.ntmps149
 go_wp2_with (go_at_call 172; refine (cmpstr_any _ _ _).mono ?_; rintro e w' ⟨rfl, rfl⟩)
 go_ret
 exact ⟨rfl, rfl⟩
set_option maxHeartbeats 400000 in
theorem ib_any (s : ByteArray) (c : Int) (w : World) :
 Calls Tryz.prog 42 #[.string s, .int .u8 c] w fun e w' => e = .returned (.int .i64 (bIdx s c.toNat.toUInt8)) ∧ w = w' := by
 go_enter Tryz.func42, Tryz.ntmps42
 go_wp2
 rw [run_callFunc_extern Tryz.func117 (by kernel_rfl) (by kernel_rfl) (by kernel_rfl) (e := Extern.BytealgIndexByte.indexByte) (by kernel_rfl), run_indexByte_string]
 simp only [Result.andThen, Lib.firstIdx_eq]
 rw [Oper.upon_value]
 go_wp2
 go_ret
 exact ⟨rfl, rfl⟩
theorem ret_bool {a b : Bool} (h : a = b) : Ending.returned (.bool a) = Ending.returned (.bool b) := by rw [h]
theorem ret_i64 {a b : Int} (h : a = b) : Ending.returned (.int .i64 a) = Ending.returned (.int .i64 b) := by rw [h]
set_option maxHeartbeats 400000 in
theorem name_any (s : ByteArray) (w : World) :
 Calls Tryz.prog 122 #[.string s] w fun e w' => e = .returned (.bool (okName s)) ∧ w = w' := by
 have H := Lib.hid (okName_eq s)
 go_enter Tryz.func122, Tryz.ntmps122
 go_wp2_with (go_at_call 42; refine (ib_any _ _ _).mono ?_; rintro e w' ⟨rfl, rfl⟩)
 all_goals
  go_ret
  refine ⟨ret_bool ?_, rfl⟩
  rw [H.out]
  first | (simp [*]; done) | (simp [*]; omega) | (simp [*]; intros; omega)
end Go.Proofs.YtimidmogcbapnaaGreatDoor
namespace Go.Proofs.YtimidmogcbapnaaGreatDoor
open Go Go.Shelf Go.RowKit
def lays221_ren : Go.Shelf.Ren :=
{
 f := fun x =>
   match x with
   | 221 => 119
   | 268 => 144
   | 138 => 145
   | 143 => 146
   | 195 => 168
   | 197 => 169
   | 218 => 170
   | 219 => 171
   | 260 => 185
   | 217 => 82
   | 225 => 186
   | 224 => 187
   | 267 => 188
   | 266 => 117
   | 314 => 194
   | n => n,
 t := fun x =>
   match x with
   | 9 => 9
   | 3 => 3
   | 31 => 34
   | 4 => 4
   | 0 => 0
   | 105 => 211
   | 21 => 21
   | 5 => 5
   | 46 => 174
   | 119 => 232
   | 139 => 235
   | 138 => 234
   | 146 => 236
   | 51 => 191
   | n => n,
 g := fun x =>
   match x with
   | 1 => 0
   | 3 => 4
   | 4 => 5
   | n => n }
theorem lays221 : Lays.n221 Tryz.prog lays221_ren :=
{ mixed := Eq.refl true, f138 := Eq.trans Tryz.func145 (congrArg some (Eq.refl (Body.n138 lays221_ren))),
  f143 := Eq.trans Tryz.func146 (congrArg some (Eq.refl (Body.n143 lays221_ren))),
  f195 := Eq.trans Tryz.func168 (congrArg some (Eq.refl (Body.n195 lays221_ren))),
  f197 := Eq.trans Tryz.func169 (congrArg some (Eq.refl (Body.n197 lays221_ren))),
  f217 := Eq.trans Tryz.func82 (congrArg some (Eq.refl (Body.n217 lays221_ren))),
  f218 := Eq.trans Tryz.func170 (congrArg some (Eq.refl (Body.n218 lays221_ren))),
  f219 := Eq.trans Tryz.func171 (congrArg some (Eq.refl (Body.n219 lays221_ren))),
  f221 := Eq.trans Tryz.func119 (congrArg some (Eq.refl (Body.n221 lays221_ren))),
  f224 := Eq.trans Tryz.func187 (congrArg some (Eq.refl (Body.n224 lays221_ren))),
  f225 := Eq.trans Tryz.func186 (congrArg some (Eq.refl (Body.n225 lays221_ren))),
  f260 := Eq.trans Tryz.func185 (congrArg some (Eq.refl (Body.n260 lays221_ren))),
  f266 := Eq.trans Tryz.func117 (congrArg some (Eq.refl (Body.n266 lays221_ren))),
  f267 := Eq.trans Tryz.func188 (congrArg some (Eq.refl (Body.n267 lays221_ren))),
  f268 := Eq.trans Tryz.func144 (congrArg some (Eq.refl (Body.n268 lays221_ren))),
  f314 := Eq.trans Tryz.func194 (congrArg some (Eq.refl (Body.n314 lays221_ren))), t0 := Tryz.underlying0,
  a0 := Tryz.isAgg0, z0 := Tryz.sizeOf0, v0 := Tryz.zeroValue0, t3 := Tryz.underlying3, a3 := Tryz.isAgg3,
  z3 := Tryz.sizeOf3, v3 := Tryz.zeroValue3, t4 := Tryz.underlying4, a4 := Tryz.isAgg4, z4 := Tryz.sizeOf4,
  v4 := Tryz.zeroValue4, t5 := Tryz.underlying5, a5 := Tryz.isAgg5, z5 := Tryz.sizeOf5, v5 := Tryz.zeroValue5,
  t9 := Tryz.underlying9, a9 := Tryz.isAgg9, z9 := Tryz.sizeOf9, v9 := Tryz.zeroValue9, t21 := Tryz.underlying21,
  a21 := Tryz.isAgg21, z21 := Tryz.sizeOf21, v21 := Tryz.zeroValue21, t31 := Tryz.underlying34, a31 := Tryz.isAgg34,
  z31 := Tryz.sizeOf34, v31 := Tryz.zeroValue34, t46 := Tryz.underlying174, a46 := Tryz.isAgg174, z46 := Tryz.sizeOf174,
  v46 := Tryz.zeroValue174, t51 := Tryz.underlying191, a51 := Tryz.isAgg191, z51 := Tryz.sizeOf191,
  v51 := Tryz.zeroValue191, t105 := Tryz.underlying211, a105 := Tryz.isAgg211, z105 := Tryz.sizeOf211,
  v105 := Tryz.zeroValue211, t119 := Tryz.underlying232, a119 := Tryz.isAgg232, z119 := Tryz.sizeOf232,
  t138 := Tryz.underlying234, a138 := Tryz.isAgg234, z138 := Tryz.sizeOf234, v138 := Tryz.zeroValue234,
  t139 := Tryz.underlying235, a139 := Tryz.isAgg235, z139 := Tryz.sizeOf235, v139 := Tryz.zeroValue235,
  t146 := Tryz.underlying236, a146 := Tryz.isAgg236, z146 := Tryz.sizeOf236, v146 := Tryz.zeroValue236,
  g1 := by kernel_rfl, g3 := by kernel_rfl,
  g4 := by kernel_rfl }
end Go.Proofs.YtimidmogcbapnaaGreatDoor
namespace Go.Proofs.YtimidmogcbapnaaGreatDoor
abbrev slashB : ByteArray := ⟨#[47]⟩
def pcsL : List UInt8 -> List (List UInt8)
 | [] => [[]]
 | c :: s => if c = 47 then [] :: pcsL s else match pcsL s with
   | [] => [[c]]
   | p :: r => (c :: p) :: r
theorem pcsL_ne : ∀ s, pcsL s ≠ []
 | [] => by simp [pcsL]
 | c :: s => by
   unfold pcsL
   split
   ·simp
   ·split <;> simp
theorem pcsL_none : ∀ s : List UInt8, (∀ c ∈ s, ¬ c = 47) -> pcsL s = [s]
 | [], _ => rfl
 | c :: s, h => by
   unfold pcsL
   rw [if_neg (h c (by simp)), pcsL_none s (fun x hx => h x (by simp [hx]))]
theorem pcsL_cut : ∀ (p s : List UInt8), (∀ c ∈ p, ¬ c = 47) -> pcsL (p ++ 47 :: s) = p :: pcsL s
 | [], s, _ => by simp [pcsL]
 | c :: p, s, h => by
   show pcsL (c :: (p ++ 47 :: s)) = _
   rw [pcsL, if_neg (h c (by simp)), pcsL_cut p s (fun x hx => h x (by simp [hx]))]
def ofL (l : List UInt8) : ByteArray := ⟨l.toArray⟩
theorem ofL_data (s : ByteArray) : ofL s.data.toList = s := by cases s; simp [ofL]
theorem ofL_toList (l : List UInt8) : (ofL l).data.toList = l := by simp [ofL]
theorem len_data (s : ByteArray) : s.data.toList.length = s.size := (Lib.size_eq s).symm
theorem data_extract (s : ByteArray) (i j : Nat) : (s.extract i j).data.toList = (s.data.toList.take j).drop i := by
 rw [Lib.extract_data, List.drop_take]
def pcs (s : ByteArray) : List ByteArray := (pcsL s.data.toList).map ofL
def prts (s : ByteArray) : List ByteArray := (pcs s).filter fun p => !decide (p = ⟨#[]⟩)
theorem pcs_none (s : ByteArray) (f : Nat) (hf : f <= s.size) (h : ∀ (j : Nat) (hj : j < s.size), f <= j -> ¬ s[j] = 47) : pcs (s.extract f s.size) = [s.extract f s.size] := by
 unfold pcs
 rw [pcsL_none]
 ·rw [List.map_cons, List.map_nil, ofL_data]
 ·intro c hc
  rw [data_extract] at hc
  obtain ⟨k, hk, e⟩ := List.mem_iff_getElem.1 hc
  simp only [List.getElem_drop, List.getElem_take] at e
  simp only [List.length_drop, List.length_take] at hk
  have h2 : f + k < s.size := by omega
  have := h (f + k) h2 (by omega)
  rw [<- e]
  exact this
theorem pcs_cut (s : ByteArray) (f k : Nat) (hf : f <= k) (hk : k < s.size) (hc : s[k] = 47) (h : ∀ (j : Nat) (hj : j < s.size), f <= j -> j < k -> ¬ s[j] = 47) :
 pcs (s.extract f s.size) = s.extract f k :: pcs (s.extract (k + 1) s.size) := by
 have hl : s.data.toList.length = s.size := len_data s
 have e : (s.extract f s.size).data.toList = (s.extract f k).data.toList ++ 47 :: (s.extract (k + 1) s.size).data.toList := by
  rw [data_extract, data_extract, data_extract, List.take_of_length_le (by omega)]
  apply List.ext_getElem?
  intro i
  by_cases hi : i < k - f
  ·rw [List.getElem?_append_left (by simp; omega)]
   simp only [List.getElem?_drop, List.getElem?_take]
   rw [if_pos (by omega)]
  ·rw [List.getElem?_append_right (by simp; omega)]
   have e2 : ((s.data.toList.take k).drop f).length = k - f := by simp; omega
   rw [e2]
   by_cases hj : i - (k - f) = 0
   ·rw [hj, List.getElem?_cons_zero, List.getElem?_drop, show f + i = k by omega, List.getElem?_eq_getElem (by omega)]
    rw [<- hc]; rfl
   ·obtain ⟨n, hn⟩ : ∃ n, i - (k - f) = n + 1 := ⟨i - (k - f) - 1, by omega⟩
    rw [hn, List.getElem?_cons_succ, List.getElem?_drop, List.getElem?_drop]
    congr 1
    omega
 unfold pcs
 rw [e, pcsL_cut]
 ·rw [List.map_cons, ofL_data]
 ·intro c hc
  rw [data_extract] at hc
  obtain ⟨n, hn, e⟩ := List.mem_iff_getElem.1 hc
  simp only [List.getElem_drop, List.getElem_take] at e
  simp only [List.length_drop, List.length_take] at hn
  have h2 : f + n < s.size := by omega
  rw [<- e]
  exact h (f + n) h2 (by omega) (by omega)
theorem extract_all (s : ByteArray) : s.extract 0 s.size = s := by
 apply eq_of_data
 rw [data_extract, List.drop_zero, List.take_of_length_le (by rw [len_data]; exact Nat.le_refl _)]
theorem pcs_size (s : ByteArray) : ∀ p ∈ pcs s, p.size <= s.size := by
 have key : ∀ l : List UInt8, ∀ p ∈ pcsL l, p.length <= l.length := by
  intro l
  induction l with
  | nil => intro p hp; simp [pcsL] at hp; subst hp; simp
  | cons c l ih =>
    intro p hp
    unfold pcsL at hp
    split at hp
    ·rcases List.mem_cons.1 hp with h | h
     ·subst h; simp
     ·have := ih p h; simp; omega
    ·cases h : pcsL l with
     | nil => exact absurd h (pcsL_ne l)
     | cons q r =>
       rw [h] at hp ih
       rcases List.mem_cons.1 hp with h2 | h2
       ·subst h2; have := ih q (by simp); simp; omega
       ·have := ih p (by simp [h2]); simp; omega
 intro p hp
 obtain ⟨l, hl, rfl⟩ := List.mem_map.1 hp
 have := key _ l hl
 rw [<- len_data (ofL l), ofL_toList]
 rwa [len_data] at this
theorem pcs_length (s : ByteArray) : (pcs s).length <= s.size + 1 := by
 have key : ∀ l : List UInt8, (pcsL l).length <= l.length + 1 := by
  intro l
  induction l with
  | nil => simp [pcsL]
  | cons c l ih =>
    unfold pcsL
    split
    ·simp; omega
    ·split
     ·simp
     ·rename_i q r h; rw [h] at ih; simp at ih ⊢; omega
 have := key s.data.toList
 rw [len_data] at this
 rw [pcs, List.length_map]
 exact this
theorem prts_length (s : ByteArray) : (prts s).length <= s.size + 1 := Nat.le_trans (List.length_filter_le _ _) (pcs_length s)
theorem prts_size (s : ByteArray) : ∀ p ∈ prts s, p.size <= s.size := fun p hp => pcs_size s p (List.mem_filter.1 hp).1
def endS (s : ByteArray) : Bool := decide (0 < s.size ∧ s.data.toList[s.size - 1]? = some 47)
def joinB (d n : ByteArray) : ByteArray := if d = ⟨#[]⟩ then n else if endS d then d ++ n else d ++ slashB ++ n
def absB (s : ByteArray) : Bool := decide (s.data.toList[0]? = some 47)
end Go.Proofs.YtimidmogcbapnaaGreatDoor
namespace Go.Proofs.YtimidmogcbapnaaGreatDoor
open Go.RowKit
def encEnt : Enc Ent where
 enc := fun e => [.string e.1, .int .i64 e.2]
 k := 2
 pos := by decide
 len := fun _ => rfl
 one := fun x v hv => by simp at hv; rcases hv with rfl | rfl <;> rfl
theorem ElemT.of {α : Type} {P : Program} {E : Enc α} {t e : TypeId} {z : α} {bytes : Nat} (zv : Value) (hu : P.underlying t = some (.slice e))
 (h : (P.info? e).map (fun i => (i.zero, i.size, i.bytes)) = some (some zv, E.k, bytes)) (hz : zv.cells.toList = E.enc z) : ElemT P E t e z bytes := by
 refine ⟨hu, ?_⟩
 cases hi : P.info? e with
 | none => rw [hi] at h; cases h
 | some i => rw [hi] at h; simp at h; exact ⟨i, rfl, h.2.1, h.2.2, zv, h.1, hz⟩
theorem tEnt : ElemT Tryz.prog encEnt 82 133 (ByteArray.empty, 0) 24 :=
 .of (.agg #[.string ByteArray.empty, .int .i64 0]) Tryz.underlying82 (by kernel_rfl) rfl
set_option maxHeartbeats 400000 in
theorem find1_any (nm name : ByteArray) (n : Int) (w : World) :
 Calls Tryz.prog 148 #[.agg #[.string nm, .int .i64 n], .string name] w fun e w' => e = .returned (.int .i64 (bCmp nm name)) ∧ Keeps NoB w w' := by
 go_enter Tryz.func148, Tryz.ntmps148
 go_wp2_with (go_at_call 149; refine (cmp_any _ _ _).mono ?_; rintro e w' ⟨rfl, rfl⟩)
 go_ret
 exact ⟨rfl, (Keeps.refl _ _).alloc _⟩
theorem SlAt.ent {S : Nat -> Prop} {w : World} {p : Option Addr} {c : Nat} {l : List Ent} (h : SlAt encEnt S w p c l) {i : Nat} {x : Ent} (hi : l[i]? = some x) :
 ∃ g off, p = some ⟨g, off, none⟩ ∧ S g ∧ g < w.heap.size ∧ w.cell? ⟨g, off + i * 2, none⟩ = some (.string x.1) ∧ w.cell? ⟨g, off + i * 2 + 1, none⟩ = some (.int .i64 x.2) := by
 obtain ⟨g, off, hp, hS, hg, hc⟩ := h.at hi
 exact ⟨g, off, hp, hS, hg, hc 0 _ rfl, by have := hc 1 _ rfl; rwa [<- Nat.add_assoc] at this⟩
set_option maxHeartbeats 1000000 in
theorem bs_any (S : Nat -> Prop) (w : World) (p : Option Addr) (c : Nat) (es : List Ent) (name : ByteArray) (h : SlAt encEnt S w p c es) (hr : Rising es) (hn : es.length < 4294967296) :
 Calls Tryz.prog 147 #[.slice p es.length c, .string name, .func (.func 148) #[] #[]] w fun e w' =>
  e = .returned (.tuple #[.int .i64 (lb es name), .bool (entHas es name)]) ∧ Keeps NoB w w' := by
 have hcap := h.cap
 have hmax := h.max
 unfold maxLen at hmax
 go_enter Tryz.func147, Tryz.ntmps147
 go_wp2
 go_loopw [9, 10] (fun i j wr => ∃ a b : Nat, a <= b ∧ b <= es.length ∧ i = .int .i64 a ∧ j = .int .i64 b ∧ (∀ k x, k < a -> es[k]? = some x -> bLt x.1 name = true) ∧ (∀ k x, b <= k -> es[k]? = some x -> bLt x.1 name = false) ∧ Keeps NoB w wr) (fun i j _ => (intOf j).toNat - (intOf i).toNat)
 case atStart => exact ⟨0, es.length, Nat.zero_le _, Nat.le_refl _, rfl, rfl, fun k x hk => by omega, fun k x hk hx => by have := (List.getElem?_eq_some_iff.1 hx).1; omega, Keeps.refl _ _⟩
 case round =>
  obtain ⟨a, b, hab, hb, rfl, rfl, hlo, hhi, hkp⟩ := hrel
  have Hlo := Lib.hid hlo
  have Hhi := Lib.hid hhi
  have Hkp := Lib.hid hkp
  clear hlo hhi hkp
  by_cases hlt : a < b
  ·obtain ⟨x, hx⟩ : ∃ x, es[(a + b) / 2]? = some x := ⟨_, List.getElem?_eq_getElem (by omega)⟩
   obtain ⟨g, off, rfl, hS, hg, c0, c1⟩ := (h.keepN Hkp.out).ent hx
   have Hx := Lib.hid hx
   clear hx
   by_cases hb : bLt x.1 name = true
   ·have hneg := (bCmp_neg _ _).2 hb
    go_wp2_with (go_at_call 148; refine (find1_any _ _ _ _).mono ?_; rintro e w' ⟨rfl, hk1⟩)
    go_roundw
    case rel =>
     refine ⟨(a + b) / 2 + 1, b, by omega, by omega, by go_num, rfl, fun k y hk hy => ?_, Hhi.out, Hkp.out.trans hk1⟩
     by_cases e : k = (a + b) / 2
     ·subst e; rw [Hx.out] at hy; cases hy; exact hb
     ·exact bLt_trans (hr.get hy Hx.out (by omega)) hb
    case measure => simp [intOf]; omega
   ·have hneg : 0 <= bCmp x.1 name := by
     have := mt (bCmp_neg x.1 name).1 hb; omega
    have hb' : bLt x.1 name = false := by simpa using hb
    go_wp2_with (go_at_call 148; refine (find1_any _ _ _ _).mono ?_; rintro e w' ⟨rfl, hk1⟩)
    go_roundw
    case rel =>
     refine ⟨a, (a + b) / 2, by omega, by omega, rfl, by go_num, Hlo.out, fun k y hk hy => ?_, Hkp.out.trans hk1⟩
     by_cases e : k = (a + b) / 2
     ·subst e; rw [Hx.out] at hy; cases hy; exact hb'
     ·have := hr.get Hx.out hy (by omega)
      cases hc : bLt y.1 name with
      | false => rfl
      | true => rw [bLt_trans this hc] at hb'; cases hb'
    case measure => simp [intOf]; omega
  ·obtain rfl : b = a := by omega
   have hlb : lb es name = b := lb_unique b hb (fun j x hj hx => Hlo.out j x hj hx) (fun x hx => Hhi.out b x (Nat.le_refl _) hx)
   have Hlb := Lib.hid hlb
   have hhas := lb_has hr name
   rw [hlb] at hhas
   clear hlb
   by_cases hlt2 : b < es.length
   ·obtain ⟨x, hx⟩ : ∃ x, es[b]? = some x := ⟨_, List.getElem?_eq_getElem (by omega)⟩
    obtain ⟨g, off, rfl, hS, hg, c0, c1⟩ := (h.keepN Hkp.out).ent hx
    rw [hx] at hhas
    have Hhas := Lib.hid hhas
    have Hx := Lib.hid hx
    clear hx hhas
    go_wp2_with (go_at_call 148; refine (find1_any _ _ _ _).mono ?_; rintro e w' ⟨rfl, hk1⟩)
    go_ret2
    refine ⟨?_, Hkp.out.trans hk1⟩
    rw [Hlb.out, Hhas.out]
    have hz : (bCmp x.1 name == 0) = decide (x.1 = name) := by rw [Bool.eq_iff_iff]; simpa using bCmp_zero x.1 name
    simp [hz]
   ·rw [List.getElem?_eq_none (by omega)] at hhas
    have Hhas := Lib.hid hhas
    clear hhas
    go_wp2_with fail
    go_ret2
    refine ⟨?_, Hkp.out⟩
    rw [Hlb.out, Hhas.out]
    rfl
end Go.Proofs.YtimidmogcbapnaaGreatDoor
namespace Go.Proofs.YtimidmogcbapnaaGreatDoor
open Go Go.RowKit
theorem tStr : ElemT Tryz.prog encStr 34 9 ByteArray.empty 16 :=
 .of (.string ByteArray.empty) Tryz.underlying34 (by kernel_rfl) rfl
theorem isEmpty_eq (x : ByteArray) : x.toList.isEmpty = decide (x = ⟨#[]⟩) := by
 rw [Lib.toList_data, Bool.eq_iff_iff, List.isEmpty_iff, decide_eq_true_eq]
 exact ⟨fun h => eq_of_data (by rw [h]), fun h => by rw [h]⟩
theorem notEmpty_eq {x : ByteArray} (h : ¬ x = ⟨#[]⟩) : (!x.toList.isEmpty) = true := by rw [isEmpty_eq]; simpa using h
set_option maxHeartbeats 1000000 in
theorem slIndex1 (s : ByteArray) (w : World) :
 Calls Tryz.prog 171 #[.string s, .string slashB] w fun e w' => e = .returned (.int .i64 (bIdx s 47)) ∧ w' = w := by
 go_enter Tryz.func171, Tryz.ntmps171
 go_wp2
 ·go_ret
  refine ⟨ret_i64 ?_, rfl⟩
  have h : ([47] == s.toList) = true := by assumption
  rw [Lib.toList_data, beq_iff_eq] at h
  rw [bIdx, <- h]
  rfl
 ·rw [run_callFunc_extern Tryz.func117 (by kernel_rfl) (by kernel_rfl) (by kernel_rfl) (e := Extern.BytealgIndexByte.indexByte) (by kernel_rfl), run_indexByte_string]
  simp only [Result.andThen, Lib.firstIdx_eq]
  rw [Oper.upon_value]
  go_wp2
  go_ret
  exact ⟨rfl, rfl⟩
set_option maxHeartbeats 400000 in
theorem strIndex1 (s : ByteArray) (w : World) :
 Calls Tryz.prog 146 #[.string s, .string slashB] w fun e w' => e = .returned (.int .i64 (bIdx s 47)) ∧ w' = w := by
 go_enter Tryz.func146, Tryz.ntmps146
 go_wp2_with (go_at_call 171; refine (slIndex1 _ _).mono ?_; rintro e w' ⟨rfl, rfl⟩)
 go_ret
 exact ⟨rfl, rfl⟩
theorem bIdx_some {s : ByteArray} {c : UInt8} {o : Nat} (h : bIdx s c = o) : ∃ ho : o < s.size, s[o] = c ∧ ∀ (j : Nat) (hj : j < s.size), j < o -> ¬ s[j] = c := by
 obtain ⟨h1, h2⟩ := Lib.indexByte_some h
 obtain ⟨h3, h4⟩ := List.getElem?_eq_some_iff.1 h1
 rw [len_data] at h3
 exact ⟨h3, h4, fun j hj hlt e => h2 j hlt (by rw [List.getElem?_eq_getElem (by rw [len_data]; exact hj)]; exact congrArg some e)⟩
theorem indexB_slash (s : ByteArray) : Lib.indexB s slashB = bIdx s 47 := Lib.index_one _ _
theorem splitB_pcs : ∀ (k : Nat) (s : ByteArray), Lib.countB s slashB = k -> Lib.splitB slashB 0 k s = pcs s
 | 0, s, hk => by
   rw [Lib.splitB_zero]
   have := pcs_none s 0 (Nat.zero_le _) (fun j hj _ e => by
    have h1 : Lib.countB s slashB = s.data.toList.count 47 := Lib.count_one _ _
    rw [hk] at h1
    have := List.count_eq_zero.1 h1.symm
    exact this (List.mem_iff_getElem.2 ⟨j, by rw [len_data]; exact hj, e⟩))
   rw [extract_all] at this
   exact this.symm
 | k + 1, s, hk => by
   rcases Lib.indexB_cases s slashB with hix | ⟨i, hix, _⟩
   ·rw [Lib.countB_miss s slashB hix] at hk; omega
   ·rw [Lib.splitB_hit slashB 0 k s i hix]
    have h2 := Lib.countB_hit s slashB i (by decide) hix
    rw [splitB_pcs k _ (by omega)]
    rw [indexB_slash] at hix
    obtain ⟨ho, h3, h4⟩ := bIdx_some hix
    have := pcs_cut s 0 i (Nat.zero_le _) ho h3 (fun j hj _ h => h4 j hj h)
    rw [extract_all] at this
    rw [this]
    rfl
set_option maxHeartbeats 1000000 in
theorem split_any (s : ByteArray) (w : World) (hs : s.size < 4294967281) :
 Calls Tryz.prog 84 #[.string s, .string slashB] w fun e w' =>
  ∃ v, e = .returned v ∧ Own encStr 9 (fun g => w.heap.size <= g) w' v (pcs s) ∧ Keeps NoB w w' := by
 have hlen := Lib.splitB_all slashB (by decide) 0 _ s rfl
 have hle := Lib.countB_le slashB (by decide) s.size s (Nat.le_refl _)
 have c := Any.strings_genSplit_core lays221 (by kernel_rfl) s slashB 0 (-1) (Lib.countB s slashB + 1) w hs (by decide) (Nat.zero_le _)
  (fun x c hx => by
    refine (strIndex1 x _).mono ?_
    rintro e w' ⟨rfl, rfl⟩
    exact ⟨by rw [indexB_slash], rfl⟩)
  (by
    refine (Any.strings_Count_one { lays221 with } s 47 w).mono ?_
    rintro e w' ⟨rfl, rfl⟩
    refine ⟨?_, rfl⟩
    show Ending.returned (Value.int .i64 ((s.data.toList.count 47 : Nat) : Int)) = Ending.returned (Value.int .i64 ((Lib.count s.data.toList [47] : Nat) : Int))
    rw [Lib.count_one])
  (by decide) (by decide) (by rw [if_pos (by decide)]; omega)
 rw [Nat.add_sub_cancel, splitB_pcs _ s rfl] at c
 rw [splitB_pcs _ s rfl] at hlen
 rw [<- hlen, Lib.cellsOf_full] at c
 have C := Lib.hid c
 clear c
 have hpl : (pcs s).length <= maxLen := by rw [hlen]; unfold maxLen; omega
 have Hp := Lib.hid hpl
 clear hpl hlen hle
 go_enter Tryz.func84, Tryz.ntmps84
 go_wp2_with (go_at_call 119; refine C.out.mono ?_; rintro e w' ⟨rfl, rfl⟩)
 go_ret
 refine ⟨_, rfl, own_lit (pcs s) _ ?_ _ rfl (Nat.le_refl _) Hp.out, (Keeps.refl _ _).alloc _⟩
 rw [List.toList_toArray]
 generalize pcs s = l
 induction l with
 | nil => rfl
 | cons a l ih => rw [List.map_cons, List.flatMap_cons, ih]; rfl
theorem filter_snoc_yes {α : Type} (l : List α) (p : α -> Bool) (k : Nat) (x : α) (hx : l[k]? = some x) : (l.take (k + 1)).filter p = (l.take k).filter p ++ (if p x then [x] else []) := by
 rw [List.take_add_one, hx]
 simp [List.filter_append]
 split <;> simp_all
set_option maxHeartbeats 1000000 in
theorem parts_any (s : ByteArray) (w : World) (hs : s.size < 4294967281) :
 Calls Tryz.prog 44 #[.string s] w fun e w' =>
  ∃ v, e = .returned v ∧ Own encStr 9 (fun g => w.heap.size <= g) w' v (prts s) ∧ Keeps NoB w w' := by
 have hpl := pcs_length s
 have Hpl := Lib.hid hpl
 clear hpl
 have Hs := Lib.hid (split_any s)
 go_enter Tryz.func44, Tryz.ntmps44
 go_wp2_with (go_at_call 84; refine (Hs.out _ hs).mono ?_; rintro e w1 ⟨v1, rfl, ho1, hk1⟩; obtain ⟨p1, c1, rfl, hsl1⟩ := ho1.sl)
 have hpl := Hpl.out
 have hcap := hsl1.cap
 have hmax := hsl1.max
 unfold maxLen at hmax
 go_loopw [3, 9] (fun o i wr => ∃ k : Nat, k <= (pcs s).length ∧ i = .int .i64 k ∧ Own encStr 9 (fun g => w1.heap.size <= g) wr o ((pcs s).take k |>.filter fun p => !decide (p = ⟨#[]⟩)) ∧ Keeps NoB w1 wr) (fun _ i _ => (pcs s).length - (intOf i).toNat)
 case atStart => exact ⟨0, Nat.zero_le _, rfl, Own.nil _ _ _ _, Keeps.refl _ _⟩
 case round =>
  rename_i wr
  obtain ⟨k, hk, rfl, ho, hkp⟩ := hrel
  have Hkp := Lib.hid hkp
  have hsz := hkp.size
  clear hkp
  by_cases hlt : k < (pcs s).length
  ·obtain ⟨x, hx⟩ : ∃ x, (pcs s)[k]? = some x := ⟨_, List.getElem?_eq_getElem hlt⟩
   obtain ⟨g, off, rfl, hS, hg, c0⟩ := (hsl1.keepN Hkp.out).str hx
   have Hsn := Lib.hid (filter_snoc_yes (pcs s) (fun p => !decide (p = ⟨#[]⟩)) k x hx)
   have hfl : ((pcs s).take k |>.filter fun p => !decide (p = ⟨#[]⟩)).length <= k := Nat.le_trans (List.length_filter_le _ _) (by simp; omega)
   clear hx
   by_cases hp : x = ⟨#[]⟩
   ·have Hp := Lib.hid hp
    subst hp
    go_wp2
    go_roundw
    case rel => exact ⟨k + 1, by omega, by go_num, by rw [Hsn.out]; simpa using ho, Hkp.out⟩
    case measure => simp [intOf]; omega
   ·have hne := notEmpty_eq hp
    go_wp2_with (at_builtin; refine wpl_append rfl (.tmp 15) (.tmp 17) rfl tStr (ho.keep ((Keeps.refl NoB _).alloc _) (fun _ _ h => h)) (own_lit (S := fun _ => True) [x] #[.string x] rfl 1 rfl trivial (by decide)).sl rfl rfl (by simp; omega) (by simp [maxLen]; omega) (by simp; omega) ?_; intro v' w' ho' hk' hf')
    go_roundw
    case rel =>
     refine ⟨k + 1, by omega, by go_num, ?_, Hkp.out.alloc _ |>.step hk' (fun g hg => Or.inr (ho.2 g hg))⟩
     rw [Hsn.out, if_pos (by simpa using hp)]
     exact ho'
    case measure => simp [intOf]; omega
  ·go_wp2
   go_ret
   refine ⟨_, rfl, ?_, hk1.trans Hkp.out⟩
   rw [List.take_of_length_le (by omega)] at ho
   exact ho.mono (fun g _ hg => by have := hk1.size; omega)
theorem absB_raw (s : ByteArray) : (decide (1 <= s.size) && ((s.extract 0 1).toList == [47])) = absB s := by
 have := Lib.hasPrefix_raw s slashB
 rw [show slashB.toList = [47] from by rw [Lib.toList_data]] at this
 refine Eq.trans (show _ = (decide (slashB.size <= s.size) && ((s.extract 0 slashB.size).toList == [47])) from rfl) (this.trans ?_)
 unfold absB Lib.hasPrefix
 cases h : s.data.toList with
 | nil => rfl
 | cons c l =>
   rw [Bool.eq_iff_iff, decide_eq_true_eq, List.isPrefixOf_iff_prefix, List.getElem?_cons_zero]
   show [47] <+: c :: l ↔ _
   rw [List.cons_prefix_cons]
   exact ⟨fun h => congrArg some h.1.symm, fun h => ⟨(Option.some.inj h).symm, List.nil_prefix⟩⟩
theorem endS_raw (s : ByteArray) : (decide (1 <= s.size) && ((s.extract (s.size - 1) s.size).toList == [47])) = endS s := by
 have := Lib.hasSuffix_raw s slashB
 rw [show slashB.toList = [47] from by rw [Lib.toList_data]] at this
 refine Eq.trans (show _ = (decide (slashB.size <= s.size) && ((s.extract (s.size - slashB.size) s.size).toList == [47])) from rfl) (this.trans ?_)
 unfold endS Lib.hasSuffix
 rw [Bool.eq_iff_iff, decide_eq_true_eq, List.isSuffixOf_iff_suffix, <- len_data]
 show [47] <:+ _ ↔ _
 rcases List.eq_nil_or_concat s.data.toList with h | ⟨l, c, h⟩
 ·rw [h]
  exact ⟨fun h => absurd (List.IsSuffix.length_le h) (by decide), fun h => absurd h.1 (by decide)⟩
 ·rw [h, List.concat_eq_append, List.length_append, List.length_singleton, Nat.add_sub_cancel, List.getElem?_append_right (Nat.le_refl _), Nat.sub_self, List.getElem?_cons_zero]
  constructor
  ·rintro ⟨t, ht⟩
   have := List.append_inj_right' ht rfl
   exact ⟨by omega, congrArg some (List.head_eq_of_cons_eq this).symm⟩
  ·rintro ⟨_, h⟩
   rw [Option.some.inj h]
   exact ⟨l, rfl⟩
set_option maxHeartbeats 400000 in
theorem slhp1 (s : ByteArray) (w : World) :
 Calls Tryz.prog 118 #[.string s, .string slashB] w fun e w' => e = .returned (.bool (absB s)) ∧ w' = w := by
 go_enter Tryz.func118, Tryz.ntmps118
 have hr := absB_raw s
 have H := Lib.hid hr
 clear hr
 go_wp2
 all_goals
  go_ret
  refine ⟨ret_bool ?_, rfl⟩
  have h := H.out
  rcases Nat.lt_or_ge s.size 1 with h1 | h1
  ·rw [<- h, decide_eq_false (by omega)]; first | rfl | omega
  ·rw [<- h, decide_eq_true h1]; first | rfl | omega
set_option maxHeartbeats 400000 in
theorem hp1 (s : ByteArray) (w : World) :
 Calls Tryz.prog 83 #[.string s, .string slashB] w fun e w' => e = .returned (.bool (absB s)) ∧ w' = w := by
 go_enter Tryz.func83, Tryz.ntmps83
 go_wp2_with (go_at_call 118; refine (slhp1 _ _).mono ?_; rintro e w' ⟨rfl, rfl⟩)
 go_ret
 exact ⟨rfl, rfl⟩
set_option maxHeartbeats 400000 in
theorem abs_any (s : ByteArray) (w : World) :
 Calls Tryz.prog 43 #[.string s] w fun e w' => e = .returned (.bool (absB s)) ∧ w' = w := by
 go_enter Tryz.func43, Tryz.ntmps43
 go_wp2_with (go_at_call 83; refine (hp1 _ _).mono ?_; rintro e w' ⟨rfl, rfl⟩)
 go_ret
 exact ⟨rfl, rfl⟩
set_option maxHeartbeats 400000 in
theorem slhs1 (s : ByteArray) (w : World) (hs : s.size <= 4294967296) :
 Calls Tryz.prog 85 #[.string s, .string slashB] w fun e w' => e = .returned (.bool (endS s)) ∧ w' = w := by
 have hr := endS_raw s
 have H := Lib.hid hr
 clear hr
 go_enter Tryz.func85, Tryz.ntmps85
 go_wp2
 all_goals
  go_ret
  refine ⟨ret_bool ?_, rfl⟩
  have h := H.out
  rcases Nat.lt_or_ge s.size 1 with h1 | h1
  ·rw [<- h, decide_eq_false (by omega)]; first | rfl | omega
  ·rw [<- h, decide_eq_true h1]; first | rfl | omega
set_option maxHeartbeats 400000 in
theorem hs1 (s : ByteArray) (w : World) (hs : s.size <= 4294967296) :
 Calls Tryz.prog 45 #[.string s, .string slashB] w fun e w' => e = .returned (.bool (endS s)) ∧ w' = w := by
 go_enter Tryz.func45, Tryz.ntmps45
 go_wp2_with (go_at_call 85; refine (slhs1 _ _ hs).mono ?_; rintro e w' ⟨rfl, rfl⟩)
 go_ret
 exact ⟨rfl, rfl⟩
set_option maxHeartbeats 400000 in
theorem join_any (d n : ByteArray) (w : World) (hs : d.size <= 4294967296) (hn : n.size <= 4294967296) :
 Calls Tryz.prog 71 #[.string d, .string n] w fun e w' => e = .returned (.string (joinB d n)) ∧ w' = w := by
 have H := Lib.hid (show joinB d n = if d.toList.isEmpty then n else if endS d then d ++ n else d ++ slashB ++ n by rw [isEmpty_eq]; unfold joinB; simp)
 go_enter Tryz.func71, Tryz.ntmps71
 go_wp2_with (go_at_call 45; refine (hs1 _ _ hs).mono ?_; rintro e w' ⟨rfl, rfl⟩)
 all_goals
  go_ret
  refine ⟨?_, rfl⟩
  rw [H.out]
  simp [*]
theorem endS_last (d : ByteArray) (h : 1 <= d.size) : endS d = decide (d[d.size - 1] = 47) := by
 unfold endS
 rw [List.getElem?_eq_getElem (by rw [len_data]; omega), Bool.eq_iff_iff, decide_eq_true_eq, decide_eq_true_eq]
 exact ⟨fun h => Option.some.inj h.2, fun e => ⟨h, congrArg some e⟩⟩
set_option maxHeartbeats 4000000
theorem toList_ne {x s : ByteArray} (h : ¬ x = s) : (x.toList == s.toList) = false := by
 rw [beq_eq_false_iff_ne]
 intro e
 rw [Lib.toList_data, Lib.toList_data] at e
 exact h (ByteArray.ext (Array.toList_inj.1 e))
end Go.Proofs.YtimidmogcbapnaaGreatDoor
