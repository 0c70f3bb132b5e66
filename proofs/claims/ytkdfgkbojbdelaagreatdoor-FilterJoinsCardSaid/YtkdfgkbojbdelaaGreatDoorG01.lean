/-
  Lemmas on memory that speak of no program: what a call keeps (Keeps), slices that are read (Sl) and slices that are owned (Own), and what append and copy do to them.
-/
import Derived.WalkKit
import Derived.WalkSpells
import Derived.WalkLawsBesides
import Derived.Lib.Hide
import Derived.Lib.Bytealg
import Derived.Lib.AppendZeros
import Derived.Lib.AppendZerosOnto
import Derived.Lib.Overlaps
import Derived.Deep.AppendSrc
import Derived.Deep.Draws
import Derived.KernelRfl
import Derived.Laws.BitsLemmas
import Derived.Test.YtkdfgkbojbdelaaGreatDoorProg
import Derived.Handy
import Derived.Lib.MinMaxS
import Derived.Lib.SplitLaws
import Derived.Shelf.Strings.Repeat
import Derived.Lib.Builder
import Derived.Lib.AppendStr
import Derived.Lib.Slices
import Derived.Lib.ConvBytes
import Derived.Laws.IdiomStrings
import Derived.Shelf.Strings.Fields
import Derived.Shelf.Strings.Count

set_option linter.unusedSimpArgs false
set_option linter.unusedVariables false
set_option maxRecDepth 100000
namespace Go.Proofs.YtkdfgkbojbdelaaGreatDoor
open Go.RowKit
def NoB : Nat -> Prop := fun _ => False
structure Keeps (F : Nat -> Prop) (w w' : World) : Prop where
 os : w'.os = w.os
 tape : w'.tape = w.tape
 output : w'.output = w.output
 size : w.heap.size <= w'.heap.size
 block : ∀ k, k < w.heap.size -> ¬ F k -> w'.heap[k]? = w.heap[k]?
theorem Keeps.refl (F : Nat -> Prop) (w : World) : Keeps F w w := ⟨rfl, rfl, rfl, Nat.le_refl _, fun _ _ _ => rfl⟩
theorem Keeps.trans' {F G H : Nat -> Prop} {a b c : World} (h : Keeps F a b) (k : Keeps G b c) (hF : ∀ g, g < a.heap.size -> F g -> H g) (hG : ∀ g, g < a.heap.size -> G g -> H g) : Keeps H a c :=
 ⟨k.os.trans h.os, k.tape.trans h.tape, k.output.trans h.output, Nat.le_trans h.size k.size,
  fun i hi hn => (k.block i (Nat.lt_of_lt_of_le hi h.size) (fun hg => hn (hG i hi hg))).trans (h.block i hi (fun hf => hn (hF i hi hf)))⟩
theorem Keeps.trans {F : Nat -> Prop} {a b c : World} (h : Keeps F a b) (k : Keeps F b c) : Keeps F a c := h.trans' k (fun _ _ h => h) (fun _ _ h => h)
theorem Keeps.step {F G : Nat -> Prop} {a b c : World} (h : Keeps F a b) (k : Keeps G b c) (hG : ∀ g, G g -> F g ∨ a.heap.size <= g) : Keeps F a c :=
 h.trans' k (fun _ _ h => h) (fun g hg h => (hG g h).elim id (fun h => absurd hg (by omega)))
theorem Keeps.mono {F G : Nat -> Prop} {a b : World} (h : Keeps F a b) (hFG : ∀ g, g < a.heap.size -> F g -> G g) : Keeps G a b :=
 ⟨h.os, h.tape, h.output, h.size, fun i hi hn => h.block i hi (fun hf => hn (hFG i hi hf))⟩
theorem Keeps.of_none {F : Nat -> Prop} {a b : World} (h : Keeps NoB a b) : Keeps F a b := h.mono (fun _ _ h => h.elim)
theorem Keeps.alloc {F : Nat -> Prop} {a w : World} (h : Keeps F a w) (o : Obj) : Keeps F a (w.alloc o) :=
 h.trans ⟨rfl, rfl, rfl, by simp, fun k hk _ => Below.heap_alloc _ _ _ hk⟩
theorem Keeps.drew {F : Nat -> Prop} {a w : World} (h : Keeps F a w) : Keeps F a w.drew := ⟨h.os, h.tape, h.output, h.size, h.block⟩
theorem Keeps.drewN {F : Nat -> Prop} {a w : World} (h : Keeps F a w) (n : Nat) : Keeps F a (w.drewN n) := ⟨h.os, h.tape, h.output, h.size, h.block⟩
theorem Keeps.setCell {F : Nat -> Prop} {a w : World} (h : Keeps F a w) {p : Addr} (hp : F p.block ∨ a.heap.size <= p.block) (u : Value) : Keeps F a (w.setCell p u) :=
 ⟨h.os, h.tape, h.output, by have := h.size; simpa [World.setCell] using this, fun k hk hn => by
   rw [Below.heap_setCell _ _ _ _ (by rcases hp with hp | hp; · intro e; subst e; exact hn hp
                                      ·omega)]; exact h.block k hk hn⟩
theorem Keeps.below {F : Nat -> Prop} {B : Nat} {w w' : World} (h : Keeps F w w') (hB : B <= w.heap.size) (hF : ∀ g, g < B -> ¬ F g) : Below B w w' :=
 ⟨h.os, h.tape, h.output, h.size, fun k hk => h.block k (by omega) (hF k hk)⟩
theorem Keeps.cell {F : Nat -> Prop} {w w' : World} (h : Keeps F w w') {p : Addr} (hp : p.block < w.heap.size) (hF : ¬ F p.block) : w'.cell? p = w.cell? p :=
 World.cell?_of_block (w := w) (h.block p.block hp hF)
theorem Keeps.frozen {F : Nat -> Prop} {w w' : World} (h : Keeps F w w') {p : Addr} (hp : p.block < w.heap.size) (hF : ¬ F p.block) : w'.frozen? p = w.frozen? p :=
 World.frozen?_of_block (w := w) (h.block p.block hp hF)
theorem lt_of_cell {w : World} {a : Addr} {v : Value} (h : w.cell? a = some v) : a.block < w.heap.size := block_lt_of_cell h
theorem lt_of_block {w : World} {g : Nat} {o : Obj} (h : w.heap[g]? = some o) : g < w.heap.size := (Array.getElem?_eq_some_iff.1 h).1
theorem add_lit (g off j : Nat) : (⟨g, off, none⟩ : Addr).add j = ⟨g, off + j, none⟩ := by unfold Addr.add; split <;> simp_all
structure Enc (α : Type) where
 enc : α -> List Value
 k : Nat
 pos : 0 < k
 len : ∀ x, (enc x).length = k
 one : ∀ x, ∀ v ∈ enc x, v.oneCell' = true
section
variable {α : Type} (E : Enc α)
theorem Enc.flat_len (l : List α) : (l.flatMap E.enc).length = l.length * E.k := by
 induction l with
 | nil => simp
 | cons a l ih => simp [ih, E.len, Nat.add_mul]; omega
theorem Enc.flat_get (l : List α) (i j : Nat) (hj : j < E.k) : (l.flatMap E.enc)[i * E.k + j]? = (l[i]?).bind fun x => (E.enc x)[j]? := by
 induction l generalizing i with
 | nil => simp
 | cons a l ih =>
   rw [List.flatMap_cons]
   cases i with
   | zero => simp only [Nat.zero_mul, Nat.zero_add]; rw [List.getElem?_append_left (by rw [E.len]; exact hj)]; rfl
   | succ i =>
     rw [List.getElem?_append_right (by rw [E.len, Nat.add_mul]; omega), E.len]
     rw [show (i + 1) * E.k + j - E.k = i * E.k + j by rw [Nat.add_mul]; omega, ih]
     rfl
theorem Enc.flat_take (l : List α) (n : Nat) : (l.take n).flatMap E.enc = (l.flatMap E.enc).take (n * E.k) := by
 induction l generalizing n with
 | nil => simp
 | cons a l ih =>
   cases n with
   | zero => simp
   | succ n =>
     rw [List.take_succ_cons, List.flatMap_cons, List.flatMap_cons, ih, List.take_append, E.len]
     rw [List.take_of_length_le (l := E.enc a) (by rw [E.len, Nat.add_mul]; omega), show (n + 1) * E.k - E.k = n * E.k by rw [Nat.add_mul]; omega]
theorem Enc.flat_drop (l : List α) (n : Nat) : (l.drop n).flatMap E.enc = (l.flatMap E.enc).drop (n * E.k) := by
 induction l generalizing n with
 | nil => simp
 | cons a l ih =>
   cases n with
   | zero => simp
   | succ n =>
     rw [List.drop_succ_cons, List.flatMap_cons, ih, List.drop_append, E.len]
     rw [List.drop_of_length_le (l := E.enc a) (by rw [E.len, Nat.add_mul]; omega), show (n + 1) * E.k - E.k = n * E.k by rw [Nat.add_mul]; omega]
     rfl
structure SlAt (S : Nat -> Prop) (w : World) (p : Option Addr) (c : Nat) (l : List α) : Prop where
 cap : l.length <= c
 max : c <= maxLen
 nilc : p = none -> c = 0
 spot : 0 < c -> ∀ a, p = some a -> a.spot = none
 cells : 0 < l.length -> ∃ g off, p = some ⟨g, off, none⟩ ∧ S g ∧ g < w.heap.size ∧ ∀ j, j < l.length * E.k -> w.cell? ⟨g, off + j, none⟩ = (l.flatMap E.enc)[j]?
def Sl (S : Nat -> Prop) (w : World) (v : Value) (l : List α) : Prop := ∃ p c, v = .slice p l.length c ∧ SlAt E S w p c l
variable {E} {S : Nat -> Prop} {w : World} {p : Option Addr} {c : Nat} {l : List α} {v : Value}
theorem Sl.nil (E : Enc α) (S : Nat -> Prop) (w : World) : Sl E S w (.slice none 0 0) [] :=
 ⟨none, 0, rfl, by simp, by simp, fun _ => rfl, (fun h => by omega), (fun h => by simp at h)⟩
theorem SlAt.keep {F : Nat -> Prop} {w' : World} (h : SlAt E S w p c l) (k : Keeps F w w') (hF : ∀ g, S g -> g < w.heap.size -> ¬ F g) : SlAt E S w' p c l :=
 ⟨h.cap, h.max, h.nilc, h.spot, fun h0 => by
   obtain ⟨g, off, rfl, hS, hg, hc⟩ := h.cells h0
   exact ⟨g, off, rfl, hS, Nat.lt_of_lt_of_le hg k.size, fun j hj => (k.cell hg (hF g hS hg)).trans (hc j hj)⟩⟩
theorem Sl.keep {F : Nat -> Prop} {w' : World} (h : Sl E S w v l) (k : Keeps F w w') (hF : ∀ g, S g -> g < w.heap.size -> ¬ F g) : Sl E S w' v l := by
 obtain ⟨p, c, rfl, h⟩ := h
 exact ⟨p, c, rfl, h.keep k hF⟩
theorem Sl.keepN {w' : World} (h : Sl E S w v l) (k : Keeps NoB w w') : Sl E S w' v l := h.keep k (fun _ _ _ h => h)
theorem SlAt.keepN {w' : World} (h : SlAt E S w p c l) (k : Keeps NoB w w') : SlAt E S w' p c l := h.keep k (fun _ _ _ h => h)
theorem Sl.mono {S' : Nat -> Prop} (h : Sl E S w v l) (hS : ∀ g, S g -> g < w.heap.size -> S' g) : Sl E S' w v l := by
 obtain ⟨p, c, rfl, h⟩ := h
 refine ⟨p, c, rfl, h.cap, h.max, h.nilc, h.spot, fun h0 => ?_⟩
 obtain ⟨g, off, rfl, hSg, hg, hc⟩ := h.cells h0
 exact ⟨g, off, rfl, hS g hSg hg, hg, hc⟩
theorem SlAt.at (h : SlAt E S w p c l) {i : Nat} {x : α} (hi : l[i]? = some x) :
 ∃ g off, p = some ⟨g, off, none⟩ ∧ S g ∧ g < w.heap.size ∧ ∀ j u, (E.enc x)[j]? = some u -> w.cell? ⟨g, off + (i * E.k + j), none⟩ = some u := by
 obtain ⟨hil, hix⟩ := List.getElem?_eq_some_iff.1 hi
 obtain ⟨g, off, hp, hS, hg, hc⟩ := h.cells (by omega)
 refine ⟨g, off, hp, hS, hg, fun j u hu => ?_⟩
 have hj : j < E.k := by have := (List.getElem?_eq_some_iff.1 hu).1; rw [E.len] at this; exact this
 have hlt : i * E.k + j < l.length * E.k := by
  have : (i + 1) * E.k <= l.length * E.k := Nat.mul_le_mul_right _ hil
  rw [Nat.add_mul] at this; omega
 rw [hc _ hlt, E.flat_get l i j hj, hi]
 exact hu
def subAt (k : Nat) (p : Option Addr) (c i : Nat) : Option Addr := if c = i then p else p.map (·.add (i * k))
theorem SlAt.sub (h : SlAt E S w p c l) (i k : Nat) (hik : i <= k) (hk : k <= l.length) : SlAt E S w (subAt E.k p c i) (c - i) ((l.take k).drop i) := by
 have hcap := h.cap
 have hmax := h.max
 unfold subAt
 by_cases hci : c = i
 ·rw [if_pos hci]
  exact ⟨by simp; omega, by omega, fun _ => by omega, (fun h0 => by omega), fun h0 => by simp at h0; omega⟩
 ·rw [if_neg hci]
  cases p with
  | none => exact absurd (h.nilc rfl) (by omega)
  | some a =>
    have hsp := h.spot (by omega) a rfl
    obtain ⟨g, off, sp⟩ := a
    subst hsp
    simp only [Option.map_some, add_lit]
    refine ⟨by simp; omega, by omega, (fun h => by cases h), (fun _ a ha => by cases ha; rfl), fun h0 => ?_⟩
    obtain ⟨g', off', hp, hS, hg, hc⟩ := h.cells (by simp at h0; omega)
    cases hp
    refine ⟨g, off + i * E.k, rfl, hS, hg, fun j hj => ?_⟩
    have hkl : ((l.take k).drop i).length = k - i := by simp; omega
    rw [hkl] at hj
    rw [Nat.add_assoc, hc _ (by
     have : (k - i + i) * E.k <= l.length * E.k := Nat.mul_le_mul_right _ (by omega)
     rw [Nat.add_mul] at this; omega)]
    rw [E.flat_drop, E.flat_take, List.getElem?_drop, List.getElem?_take]
    rw [if_pos (by
     have : (k - i + i) * E.k <= k * E.k := Nat.mul_le_mul_right _ (by omega)
     rw [Nat.add_mul] at this; omega)]
def Own (E : Enc α) (e : TypeId) (S : Nat -> Prop) (w : World) (v : Value) (l : List α) : Prop :=
 w.ownsRow 0 e E.k v l.length (l.flatMap E.enc) ∧ ∀ g, v.ownBlock = some g -> S g
theorem Own.nil (E : Enc α) (e : TypeId) (S : Nat -> Prop) (w : World) : Own E e S w (.slice none 0 0) [] :=
 ⟨by simpa using World.ownsRow_nil w 0 e E.k, fun g h => by simp [Value.ownBlock] at h⟩
variable {e : TypeId}
theorem Own.lt (h : Own E e S w v l) : ∀ g, v.ownBlock = some g -> g < w.heap.size := fun g hg => (h.1.lt g hg).2
theorem Own.keep {F : Nat -> Prop} {w' : World} (h : Own E e S w v l) (k : Keeps F w w') (hF : ∀ g, v.ownBlock = some g -> ¬ F g) : Own E e S w' v l := by
 refine ⟨⟨h.1.1, ?_⟩, h.2⟩
 rcases h.1.2 with hn | ⟨g, cap, cur, hv, hg, hh, r⟩
 ·exact .inl hn
 ·subst hv
  exact .inr ⟨g, cap, cur, rfl, hg, (k.block g (lt_of_block hh) (hF g rfl)).trans hh, r⟩
theorem Own.mono {S' : Nat -> Prop} (h : Own E e S w v l) (hS : ∀ g, v.ownBlock = some g -> S g -> S' g) : Own E e S' w v l :=
 ⟨h.1, fun g hg => hS g hg (h.2 g hg)⟩
theorem Own.sl (h : Own E e S w v l) : Sl E S w v l := by
 rcases h.1.2 with ⟨rfl, hn⟩ | ⟨g, cap, cur, rfl, _, hg, hcap, hmax, hsz, htk⟩
 ·have : l = [] := List.eq_nil_of_length_eq_zero hn
  subst this
  exact Sl.nil E S w
 ·refine ⟨_, cap, rfl, hcap, hmax, (fun h => by cases h), (fun _ a ha => by cases ha; rfl), fun _ => ⟨g, 0, rfl, h.2 g rfl, lt_of_block hg, fun j hj => ?_⟩⟩
  rw [cell_of_row w g _ cur e (0, 0) hg, <- htk, List.getElem?_take, if_pos hj, Nat.zero_add]
  simp
theorem Own.at (h : Own E e S w (.slice p l.length c) l) : SlAt E S w p c l := by
 obtain ⟨p', c', hpc, hs⟩ := h.sl
 cases hpc
 exact hs
theorem Own.mk {g cap : Nat} {cur : Array Value} (hS : S g) (hg : w.heap[g]? = some (.cells cur e (0, 0))) (hcap : l.length <= cap) (hmax : cap <= maxLen) (hsz : cur.size = cap * E.k)
 (htk : cur.toList.take (l.length * E.k) = l.flatMap E.enc) : Own E e S w (.slice (some ⟨g, 0, none⟩) l.length cap) l :=
 ⟨⟨E.flat_len l, .inr ⟨g, cap, cur, rfl, Nat.zero_le _, hg, hcap, hmax, hsz, htk⟩⟩, fun g' h => by simp [Value.ownBlock] at h; subst h; exact hS⟩
end
def encStr : Enc ByteArray where
 enc := fun s => [.string s]
 k := 1
 pos := by decide
 len := fun _ => rfl
 one := fun x v hv => by simp at hv; subst hv; rfl
theorem SlAt.str {S : Nat -> Prop} {w : World} {p : Option Addr} {c : Nat} {l : List ByteArray} (h : SlAt encStr S w p c l) {i : Nat} {x : ByteArray} (hi : l[i]? = some x) :
 ∃ g off, p = some ⟨g, off, none⟩ ∧ S g ∧ g < w.heap.size ∧ w.cell? ⟨g, off + i, none⟩ = some (.string x) := by
 obtain ⟨g, off, hp, hS, hg, hc⟩ := h.at hi
 refine ⟨g, off, hp, hS, hg, ?_⟩
 have := hc 0 _ rfl
 rwa [Nat.add_zero, show encStr.k = 1 from rfl, Nat.mul_one] at this
section
variable {α : Type} {E : Enc α} {P : Program} {t e : TypeId} {z : α} {bytes : Nat} {S : Nat -> Prop} {w : World}
theorem own_fresh (l spare : List α) (hS : S w.heap.size) (hmax : l.length + spare.length <= maxLen) (cs : Array Value) (hcs : cs.toList = (l ++ spare).flatMap E.enc) :
 Own E e S (w.alloc (.cells cs e)) (.slice (some ⟨w.heap.size, 0, none⟩) l.length (l.length + spare.length)) l := by
 refine Own.mk (cur := cs) hS (heap_alloc_new w _) (by omega) hmax ?_ ?_
 ·rw [<- Array.length_toList, hcs, E.flat_len]; simp
 ·rw [hcs, <- E.flat_take]; simp
theorem own_lit (l : List α) (cs : Array Value) (hcs : cs.toList = l.flatMap E.enc) (n : Nat) (hn : n = l.length) (hS : S w.heap.size) (hm : n <= maxLen) :
 Own E e S (w.alloc (.cells cs e)) (.slice (some ⟨w.heap.size, 0, none⟩) n n) l := by
 subst hn
 have := own_fresh (E := E) (e := e) (S := S) (w := w) l [] hS (by simpa using hm) cs (by simpa using hcs)
 simpa using this
end
theorem run_slice_l {P : Program} (t e : TypeId) (size : Nat) (ht : P.underlying t = some (.slice e)) (hz : (P.info? e).map (·.size) = some size) (p : Option Addr) (n c i : Nat) (h1 : i <= n) (w : World) (hc : n <= 9223372036854775807) :
 (Instr.slice t (.slice p n c) (some (.int .i64 i)) none none).run P w = .ok (.slice (subAt size p c i) (n - i) (c - i)) w := by
 cases hi : P.info? e with
 | none => rw [hi] at hz; cases hz
 | some inf =>
   rw [hi] at hz
   have hs : inf.size = size := by simpa using hz
   simp [Instr.slice, Instr.sliceBounds, Instr.sliceBound, asIntOf, run_underlying ht, sizeOf, typeInfo, hi, hs, subAt, h1]
end Go.Proofs.YtkdfgkbojbdelaaGreatDoor
set_option maxHeartbeats 4000000
namespace Go.Proofs.YtkdfgkbojbdelaaGreatDoor
open Go
def crcD (c : Nat) : Nat := 2 * c % 4294967296
def crcT (c : Nat) : Bool := decide (2147483648 <= c)
def crcS (c : Nat) : Nat := if crcT c then crcD c ^^^ 79764919 else crcD c
def crcR (c : Nat) (one : Bool) : Nat := if crcT c != one then crcD c ^^^ 79764919 else crcD c
theorem crcD_lt (c : Nat) : crcD c < 4294967296 := Nat.mod_lt _ (by decide)
theorem xor_lt {a b : Nat} (ha : a < 4294967296) (hb : b < 4294967296) : a ^^^ b < 4294967296 := Nat.xor_lt_two_pow (n := 32) ha hb
theorem crcR_lt (c : Nat) (o : Bool) : crcR c o < 4294967296 := by
 unfold crcR
 split
 ·exact xor_lt (crcD_lt c) (by decide)
 ·exact crcD_lt c
theorem crcS_lt (c : Nat) : crcS c < 4294967296 := by
 unfold crcS
 split
 ·exact xor_lt (crcD_lt c) (by decide)
 ·exact crcD_lt c
theorem crcD_xor (x y : Nat) : crcD (x ^^^ y) = crcD x ^^^ crcD y := by
 unfold crcD
 have h : 2 * (x ^^^ y) = (2 * x) ^^^ (2 * y) := by
  have := Nat.shiftLeft_xor_distrib (a := x) (b := y) (i := 1)
  simpa [Nat.shiftLeft_eq, Nat.mul_comm] using this
 rw [h]
 exact Nat.xor_mod_two_pow (n := 32)
theorem crcT_bit {c : Nat} (h : c < 4294967296) : crcT c = c.testBit 31 := by
 unfold crcT
 rw [Nat.testBit_eq_decide_div_mod_eq]
 have : (2147483648 <= c) ↔ (c / 2 ^ 31 % 2 = 1) := by
  rw [show (2 : Nat) ^ 31 = 2147483648 from rfl]
  omega
 exact decide_eq_decide.2 this
theorem crcT_xor {x y : Nat} (hx : x < 4294967296) (hy : y < 4294967296) : crcT (x ^^^ y) = (crcT x != crcT y) := by
 rw [crcT_bit (xor_lt hx hy), crcT_bit hx, crcT_bit hy, Nat.testBit_xor]
theorem crcS_xor {x y : Nat} (hx : x < 4294967296) (hy : y < 4294967296) : crcS (x ^^^ y) = crcR x (crcT y) ^^^ crcD y := by
 unfold crcS crcR
 rw [crcT_xor hx hy, crcD_xor]
 split
 ·rw [Nat.xor_assoc, Nat.xor_assoc, Nat.xor_comm (crcD y)]
 ·rfl
def crcY (b : Nat) : Nat -> Nat
 | 0 => b * 16777216
 | j + 1 => crcD (crcY b j)
theorem crcY_lt {b : Nat} (hb : b < 256) : ∀ j, crcY b j < 4294967296
 | 0 => by unfold crcY; omega
 | j + 1 => crcD_lt _
theorem crcY_bits : ∀ b : Fin 256, ∀ j : Fin 8, crcT (crcY b.val j.val) = (b.val / 2 ^ (7 - j.val) % 2 == 1) := by decide +kernel
theorem crcY_end : ∀ b : Fin 256, crcY b.val 8 = 0 := by decide +kernel
def crcN (c b : Nat) : Nat -> Nat
 | 0 => c
 | j + 1 => crcR (crcN c b j) (crcT (crcY b j))
def crcQ (x : Nat) : Nat -> Nat
 | 0 => x
 | j + 1 => crcS (crcQ x j)
def crcB (c b : Nat) : Nat := crcN c b 8
theorem crcN_lt {c : Nat} (hc : c < 4294967296) (b : Nat) : ∀ j, crcN c b j < 4294967296
 | 0 => hc
 | _ + 1 => crcR_lt _ _
theorem crcQ_lt {x : Nat} (hx : x < 4294967296) : ∀ j, crcQ x j < 4294967296
 | 0 => hx
 | _ + 1 => crcS_lt _
theorem crcB_lt (c b : Nat) : crcB c b < 4294967296 := crcR_lt _ _
theorem crcQ_eq {c b : Nat} (hc : c < 4294967296) (hb : b < 256) : ∀ j, crcQ (c ^^^ crcY b 0) j = crcN c b j ^^^ crcY b j
 | 0 => rfl
 | j + 1 => by
   show crcS (crcQ (c ^^^ crcY b 0) j) = crcR (crcN c b j) (crcT (crcY b j)) ^^^ crcD (crcY b j)
   rw [crcQ_eq hc hb j, crcS_xor (crcN_lt hc b j) (crcY_lt hb j)]
theorem crcQ_byte {c b : Nat} (hc : c < 4294967296) (hb : b < 256) : crcQ (c ^^^ b * 16777216) 8 = crcB c b := by
 have h := crcQ_eq hc hb 8
 rw [crcY_end ⟨b, hb⟩, Nat.xor_zero] at h
 exact h
theorem crcN_step (c : Nat) {b j : Nat} (hb : b < 256) (hj : j < 8) : crcN c b (j + 1) = crcR (crcN c b j) (b / 2 ^ (7 - j) % 2 == 1) := by
 have := crcY_bits ⟨b, hb⟩ ⟨j, hj⟩
 show crcR (crcN c b j) (crcT (crcY b j)) = _
 rw [this]
def crcF (c : Nat) (l : List UInt8) : Nat := l.foldl (fun c b => crcB c b.toNat) c
theorem crcF_lt {c : Nat} (hc : c < 4294967296) (l : List UInt8) : crcF c l < 4294967296 := by
 unfold crcF
 induction l generalizing c with
 | nil => exact hc
 | cons b l ih => exact ih (crcB_lt _ _)
theorem crcF_succ (c : Nat) (l : List UInt8) {k : Nat} {b : UInt8} (h : l[k]? = some b) : crcF c (l.take (k + 1)) = crcB (crcF c (l.take k)) b.toNat := by
 unfold crcF
 rw [List.take_add_one, h, List.foldl_append]
 rfl
def crcL (c n : Nat) : Nat := if h : n = 0 then c else crcL (crcB c (n % 256)) (n / 256)
termination_by n
decreasing_by omega
theorem crcL_zero (c : Nat) : crcL c 0 = c := by unfold crcL; rfl
theorem crcL_step (c : Nat) {n : Nat} (h : 0 < n) : crcL c n = crcL (crcB c (n % 256)) (n / 256) := by
 rw [crcL, dif_neg (by omega)]
theorem crcL_lt {c : Nat} (hc : c < 4294967296) (n : Nat) : crcL c n < 4294967296 := by
 induction n using Nat.strongRecOn generalizing c with
 | ind n ih =>
   rcases Nat.eq_zero_or_pos n with rfl | h
   ·rw [crcL_zero]; exact hc
   ·rw [crcL_step c h]; exact ih _ (by omega) (crcB_lt _ _)
def crcOf (s : ByteArray) : Nat := 4294967295 - crcL (crcF 0 s.data.toList) s.size
theorem crcOf_lt (s : ByteArray) : crcOf s < 4294967296 := by unfold crcOf; omega
theorem xor_all {c : Nat} (h : c < 4294967296) : 4294967295 ^^^ c = 4294967295 - c := by
 have h1 : (~~~ (BitVec.ofNat 32 c)).toNat = 4294967295 - c := by
  rw [BitVec.toNat_not, BitVec.toNat_ofNat, Nat.mod_eq_of_lt h]
 have h2 : (BitVec.allOnes 32 ^^^ BitVec.ofNat 32 c).toNat = 4294967295 ^^^ c := by
  rw [BitVec.toNat_xor, BitVec.toNat_ofNat, Nat.mod_eq_of_lt h]
  rfl
 rw [<- h2, <- h1, BitVec.allOnes_xor]
theorem bits_xor_32 {a b : Nat} (ha : a < 4294967296) (hb : b < 4294967296) : bits .xor .u32 (a : Int) (b : Int) = ((a ^^^ b : Nat) : Int) := by
 have h := xor_lt ha hb
 show IntKind.u32.wrap ((BitVec.ofInt 32 (a : Int) ^^^ BitVec.ofInt 32 (b : Int)).toNat : Int) = _
 rw [BitVec.ofInt_natCast, BitVec.ofInt_natCast, BitVec.toNat_xor, BitVec.toNat_ofNat, BitVec.toNat_ofNat, Nat.mod_eq_of_lt ha, Nat.mod_eq_of_lt hb]
 generalize a ^^^ b = c at *
 rw [IntKind.wrap_u32]
 omega
end Go.Proofs.YtkdfgkbojbdelaaGreatDoor
namespace Go.Proofs.YtkdfgkbojbdelaaGreatDoor
open Go Go.RowKit
theorem wrap_dbl (c : Nat) : IntKind.u32.wrap ((c : Int) * 2) = ((crcD c : Nat) : Int) := by
 unfold crcD
 rw [IntKind.wrap_u32]
 omega
theorem crc_one {c : Nat} (h : crcT c = true) : bits .xor .u32 (IntKind.u32.wrap ((c : Int) * 2)) 79764919 = ((crcS c : Nat) : Int) := by
 rw [wrap_dbl, show (79764919 : Int) = ((79764919 : Nat) : Int) from rfl, bits_xor_32 (crcD_lt c) (by decide), crcS, if_pos h]
theorem crc_two {c : Nat} (h : crcT c = false) : IntKind.u32.wrap ((c : Int) * 2) = ((crcS c : Nat) : Int) := by
 rw [wrap_dbl, crcS, if_neg (by rw [h]; decide)]
theorem shift_any (c b : Nat) (hc : c < 4294967296) (hb : b < 256) (w : World) :
 Calls Tryz.prog 113 #[.int .u32 (c : Int), .int .u8 (b : Int)] w fun e w' => e = .returned (.int .u32 ((crcB c b : Nat) : Int)) ∧ w = w' := by
 have hx : bits .xor .u32 (c : Int) ((b : Int) * 16777216) = ((crcQ (c ^^^ b * 16777216) 0 : Nat) : Int) := by
  rw [show ((b : Int) * 16777216) = ((b * 16777216 : Nat) : Int) by omega, bits_xor_32 hc (by omega)]
  rfl
 have HQ := Lib.hid (fun j : Nat => crcQ_lt (xor_lt hc (show b * 16777216 < 4294967296 by omega)) j)
 have HE := Lib.hid (crcQ_byte hc hb)
 have hw : IntKind.u32.wrap ((b : Int) * 16777216) = (b : Int) * 16777216 := by
  rw [IntKind.wrap_u32]
  omega
 generalize c ^^^ b * 16777216 = x0 at *
 go_enter Tryz.func113, Tryz.ntmps113
 go_wp2
 go_loop [0, 10] (fun cc i => ∃ j : Nat, j <= 8 ∧ i = .int .i64 j ∧ cc = .int .u32 ((crcQ x0 j : Nat) : Int)) (fun _ i => 9 - (intOf i).toNat)
 case atStart => exact ⟨0, by omega, rfl, by first | rfl | (rw [hw, hx]; done) | (rw [hx]; done)⟩
 case round =>
  obtain ⟨j, hj, rfl, rfl⟩ := hrel
  have hlq := HQ.out j
  clear hx hw
  by_cases hlt : j < 8
  ·by_cases ht : crcT (crcQ x0 j) = true
   ·have h1 := crc_one ht
    have hq : ((crcQ x0 j : Nat) : Int) / 2147483648 = 1 := by
     unfold crcT at ht
     have := of_decide_eq_true ht
     omega
    have hs : crcQ x0 (j + 1) = crcS (crcQ x0 j) := rfl
    have HS := Lib.hid hs
    generalize crcQ x0 j = y at *
    clear hs
    go_wp2
    go_round
    case rel => exact ⟨j + 1, by omega, by go_num, by (rw [HS.out]) <;> first | rfl | exact congrArg _ h1⟩
    case measure => (simp [intOf]) <;> omega
   ·have ht' : crcT (crcQ x0 j) = false := by simpa using ht
    have h1 := crc_two ht'
    have hq : ((crcQ x0 j : Nat) : Int) / 2147483648 = 0 := by
     unfold crcT at ht'
     have := of_decide_eq_false ht'
     omega
    have hs : crcQ x0 (j + 1) = crcS (crcQ x0 j) := rfl
    have HS := Lib.hid hs
    generalize crcQ x0 j = y at *
    clear hs
    go_wp2
    go_round
    case rel => exact ⟨j + 1, by omega, by go_num, by (rw [HS.out]) <;> first | rfl | exact congrArg _ h1⟩
    case measure => (simp [intOf]) <;> omega
  ·obtain rfl : j = 8 := by omega
   have he := HE.out
   go_wp2
   go_ret
   exact ⟨rfl, rfl⟩
theorem bit_any (c : Nat) (one : Bool) (hc : c < 4294967296) (w : World) :
 Calls Tryz.prog 47 #[.int .u32 (c : Int), .bool one] w fun e w' => e = .returned (.int .u32 ((crcR c one : Nat) : Int)) ∧ w = w' := by
 have hd : IntKind.u32.wrap ((c : Int) % 2147483648 * 2) = ((crcD c : Nat) : Int) := by
  unfold crcD
  rw [IntKind.wrap_u32]
  omega
 have hd2 : ((c : Int) % 2147483648 * 2) = ((crcD c : Nat) : Int) := by
  unfold crcD
  omega
 have hx : bits .xor .u32 ((crcD c : Nat) : Int) 79764919 = ((crcD c ^^^ 79764919 : Nat) : Int) := bits_xor_32 (crcD_lt c) (by decide)
 have hl := crcD_lt c
 by_cases ht : 2147483648 <= c
 ·have hT : crcT c = true := decide_eq_true ht
  have hi : (2147483648 : Int) <= c := by omega
  unfold crcR
  rw [hT]
  generalize crcD c = y at *
  cases one
  ·go_enter Tryz.func47, Tryz.ntmps47
   go_wp2
   go_ret
   exact ⟨by first | rfl | simp [hx], rfl⟩
  ·go_enter Tryz.func47, Tryz.ntmps47
   go_wp2
   go_ret
   exact ⟨by first | rfl | simp [hx], rfl⟩
 ·have hT : crcT c = false := decide_eq_false ht
  have hi : ¬ (2147483648 : Int) <= c := by omega
  unfold crcR
  rw [hT]
  generalize crcD c = y at *
  cases one
  ·go_enter Tryz.func47, Tryz.ntmps47
   go_wp2
   go_ret
   exact ⟨by first | rfl | simp [hx], rfl⟩
  ·go_enter Tryz.func47, Tryz.ntmps47
   go_wp2
   go_ret
   exact ⟨by first | rfl | simp [hx], rfl⟩
theorem bit_bool (b k : Nat) : (((b : Int) / ((k : Nat) : Int) % 2 == 1) : Bool) = (b / k % 2 == 1) := by
 rw [Bool.eq_iff_iff, beq_iff_eq, beq_iff_eq, <- Int.natCast_ediv]
 omega
theorem byteIn_any (c b : Nat) (hc : c < 4294967296) (hb : b < 256) (w : World) :
 Calls Tryz.prog 23 #[.int .u32 (c : Int), .int .u8 (b : Int)] w fun e w' => e = .returned (.int .u32 ((crcB c b : Nat) : Int)) ∧ w = w' := by
 have HB := Lib.hid (fun (j : Nat) (o : Bool) (w1 : World) => bit_any (crcN c b j) o (crcN_lt hc b j) w1)
 have HS := Lib.hid (fun (j : Nat) (hj : j < 8) => crcN_step c hb hj)
 go_enter Tryz.func23, Tryz.ntmps23
 go_wp2
 go_loop [0, 5] (fun cc i => ∃ j : Nat, j <= 8 ∧ i = .int .i64 (if j < 8 then (2 ^ (7 - j) : Nat) else 0 : Nat) ∧ cc = .int .u32 ((crcN c b j : Nat) : Int)) (fun _ i => (intOf i).toNat)
 case atStart => exact ⟨0, by omega, rfl, rfl⟩
 case round =>
  obtain ⟨j, hj, rfl, rfl⟩ := hrel
  rcases (show j = 0 ∨ j = 1 ∨ j = 2 ∨ j = 3 ∨ j = 4 ∨ j = 5 ∨ j = 6 ∨ j = 7 ∨ j = 8 by omega) with rfl | rfl | rfl | rfl | rfl | rfl | rfl | rfl | rfl
  ·have HS0 := Lib.hid (HS.out 0 (by decide))
   simp only [show ((if 0 < 8 then (2 ^ (7 - 0) : Nat) else 0 : Nat) : Int) = 128 by decide]
   go_wp2_with (go_at_call 47; go_loud (refine (HB.out 0 _ _).mono ?_); rintro e w1 ⟨rfl, rfl⟩)
   go_round
   case rel =>
    refine ⟨1, by omega, by go_num, ?_⟩
    rw [HS0.out, <- bit_bool b (2 ^ (7 - 0))]
    first | rfl | simp
   case measure => simp [intOf]
  ·have HS0 := Lib.hid (HS.out 1 (by decide))
   simp only [show ((if 1 < 8 then (2 ^ (7 - 1) : Nat) else 0 : Nat) : Int) = 64 by decide]
   go_wp2_with (go_at_call 47; go_loud (refine (HB.out 1 _ _).mono ?_); rintro e w1 ⟨rfl, rfl⟩)
   go_round
   case rel =>
    refine ⟨2, by omega, by go_num, ?_⟩
    rw [HS0.out, <- bit_bool b (2 ^ (7 - 1))]
    first | rfl | simp
   case measure => simp [intOf]
  ·have HS0 := Lib.hid (HS.out 2 (by decide))
   simp only [show ((if 2 < 8 then (2 ^ (7 - 2) : Nat) else 0 : Nat) : Int) = 32 by decide]
   go_wp2_with (go_at_call 47; go_loud (refine (HB.out 2 _ _).mono ?_); rintro e w1 ⟨rfl, rfl⟩)
   go_round
   case rel =>
    refine ⟨3, by omega, by go_num, ?_⟩
    rw [HS0.out, <- bit_bool b (2 ^ (7 - 2))]
    first | rfl | simp
   case measure => simp [intOf]
  ·have HS0 := Lib.hid (HS.out 3 (by decide))
   simp only [show ((if 3 < 8 then (2 ^ (7 - 3) : Nat) else 0 : Nat) : Int) = 16 by decide]
   go_wp2_with (go_at_call 47; go_loud (refine (HB.out 3 _ _).mono ?_); rintro e w1 ⟨rfl, rfl⟩)
   go_round
   case rel =>
    refine ⟨4, by omega, by go_num, ?_⟩
    rw [HS0.out, <- bit_bool b (2 ^ (7 - 3))]
    first | rfl | simp
   case measure => simp [intOf]
  ·have HS0 := Lib.hid (HS.out 4 (by decide))
   simp only [show ((if 4 < 8 then (2 ^ (7 - 4) : Nat) else 0 : Nat) : Int) = 8 by decide]
   go_wp2_with (go_at_call 47; go_loud (refine (HB.out 4 _ _).mono ?_); rintro e w1 ⟨rfl, rfl⟩)
   go_round
   case rel =>
    refine ⟨5, by omega, by go_num, ?_⟩
    rw [HS0.out, <- bit_bool b (2 ^ (7 - 4))]
    first | rfl | simp
   case measure => simp [intOf]
  ·have HS0 := Lib.hid (HS.out 5 (by decide))
   simp only [show ((if 5 < 8 then (2 ^ (7 - 5) : Nat) else 0 : Nat) : Int) = 4 by decide]
   go_wp2_with (go_at_call 47; go_loud (refine (HB.out 5 _ _).mono ?_); rintro e w1 ⟨rfl, rfl⟩)
   go_round
   case rel =>
    refine ⟨6, by omega, by go_num, ?_⟩
    rw [HS0.out, <- bit_bool b (2 ^ (7 - 5))]
    first | rfl | simp
   case measure => simp [intOf]
  ·have HS0 := Lib.hid (HS.out 6 (by decide))
   simp only [show ((if 6 < 8 then (2 ^ (7 - 6) : Nat) else 0 : Nat) : Int) = 2 by decide]
   go_wp2_with (go_at_call 47; go_loud (refine (HB.out 6 _ _).mono ?_); rintro e w1 ⟨rfl, rfl⟩)
   go_round
   case rel =>
    refine ⟨7, by omega, by go_num, ?_⟩
    rw [HS0.out, <- bit_bool b (2 ^ (7 - 6))]
    first | rfl | simp
   case measure => simp [intOf]
  ·have HS0 := Lib.hid (HS.out 7 (by decide))
   simp only [show ((if 7 < 8 then (2 ^ (7 - 7) : Nat) else 0 : Nat) : Int) = 1 by decide]
   go_wp2_with (go_at_call 47; go_loud (refine (HB.out 7 _ _).mono ?_); rintro e w1 ⟨rfl, rfl⟩)
   go_round
   case rel =>
    refine ⟨8, by omega, by go_num, ?_⟩
    rw [HS0.out, <- bit_bool b (2 ^ (7 - 7))]
    first | rfl | simp
   case measure => simp [intOf]
  ·simp only [show ((if 8 < 8 then (2 ^ (7 - 8) : Nat) else 0 : Nat) : Int) = 0 by decide]
   go_wp2
   go_ret
   exact ⟨rfl, rfl⟩
end Go.Proofs.YtkdfgkbojbdelaaGreatDoor
namespace Go.Proofs.YtkdfgkbojbdelaaGreatDoor
def bIdx (s : ByteArray) (c : UInt8) : Int := Lib.indexByte s.data.toList c
/-! ### what a rising list gives -/
theorem len_data (s : ByteArray) : s.data.toList.length = s.size := (Lib.size_eq s).symm
end Go.Proofs.YtkdfgkbojbdelaaGreatDoor
namespace Go.Proofs.YtkdfgkbojbdelaaGreatDoor
open Go Go.RowKit
theorem kset (w : World) (p : Addr) (u : Value) : Keeps (fun x => x = p.block) w (w.setCell p u) := Keeps.setCell (p := p) (Keeps.refl (fun x => x = p.block) w) (Or.inl rfl) u
theorem ba_eq {a b : ByteArray} (h : a.data.toList = b.data.toList) : a = b := ByteArray.ext (Array.toList_inj.1 h)
theorem xell_set {w : World} {g j k : Nat} {v u : Value} (h : w.cell? ⟨g, j, none⟩ = some v) : (w.setCell ⟨g, k, none⟩ u).cell? ⟨g, j, none⟩ = some (if j = k then u else v) := by
 by_cases e : j = k
 ·subst e; rw [if_pos rfl]; exact World.cell?_setCell_same _ _ _ h
 ·rw [if_neg e, World.cell?_setCell_other _ _ _ _ (by simp [e])]; exact h
theorem xrozen_set (w : World) (p q : Addr) (u : Value) : (w.setCell p u).frozen? q = w.frozen? q := by simp
structure Bk (w : World) (B : Nat) (l : List Value) : Prop where
 lt : B < w.heap.size
 cell : ∀ i v, l[i]? = some v -> w.cell? ⟨B, i, none⟩ = some v
 fz : ∀ j, w.frozen? ⟨B, j, none⟩ = false
section
variable {w w' : World} {B : Nat} {l : List Value}
theorem Bk.new {cs : Array Value} {T : TypeId} (k : Keeps NoB (w.alloc (.cells cs T)) w') : Bk w' w.heap.size cs.toList := by
 have hn := heap_alloc_new w (.cells cs T)
 have h4 := (k.block w.heap.size (by simp) (fun h => h)).trans hn
 refine ⟨Nat.lt_of_lt_of_le (by simp) k.size, fun i v hv => ?_, fun j => frozen_of_row w' _ j _ T h4⟩
 rw [cell_of_row w' _ i _ T (0, 0) h4, <- Array.getElem?_toList]
 exact hv
theorem Bk.keep {G : Nat -> Prop} (h : Bk w B l) (k : Keeps G w w') (hB : ¬ G B) : Bk w' B l :=
 ⟨Nat.lt_of_lt_of_le h.lt k.size, fun i v hv => (k.cell (p := ⟨B, i, none⟩) h.lt hB).trans (h.cell i v hv), fun j => (k.frozen (p := ⟨B, j, none⟩) h.lt hB).trans (h.fz j)⟩
theorem Bk.on (h : Bk w B l) (k : Keeps NoB w w') : Bk w' B l := h.keep k (fun h => h)
theorem Bk.put (h : Bk w B l) (i : Nat) (v : Value) : Bk (w.setCell ⟨B, i, none⟩ v) B (l.set i v) := by
 refine ⟨by simpa using h.lt, fun j u hu => ?_, fun j => (xrozen_set _ _ _ _).trans (h.fz j)⟩
 rw [List.getElem?_set] at hu
 split at hu
 ·next e =>
  subst e
  split at hu
  ·next hl =>
   cases hu
   have := xell_set (k := i) (u := v) (h.cell i _ (List.getElem?_eq_getElem hl))
   rw [if_pos rfl] at this
   exact this
  ·cases hu
 ·next e =>
  have := xell_set (k := i) (u := v) (h.cell j u hu)
  rw [if_neg (fun x => e x.symm)] at this
  exact this
end
def encU8 : Enc UInt8 where
 enc := fun c => [.int .u8 (c.toNat : Int)]
 k := 1
 pos := by decide
 len := fun _ => rfl
 one := fun x v hv => by simp at hv; subst hv; rfl
section
variable {S : Nat -> Prop} {w w' : World} {b : Nat} {s : List UInt8}
end
end Go.Proofs.YtkdfgkbojbdelaaGreatDoor
namespace Go.Proofs.YtkdfgkbojbdelaaGreatDoor
open Go.RowKit
set_option maxHeartbeats 400000 in
theorem ib_any (s : ByteArray) (c : Int) (w : World) :
 Calls Tryz.prog 33 #[.string s, .int .u8 c] w fun e w' => e = .returned (.int .i64 (bIdx s c.toNat.toUInt8)) ∧ w = w' := by
 go_enter Tryz.func33, Tryz.ntmps33
 go_wp2
 rw [run_callFunc_extern Tryz.func87 (by kernel_rfl) (by kernel_rfl) (by kernel_rfl) (e := Extern.BytealgIndexByte.indexByte) (by kernel_rfl), run_indexByte_string]
 simp only [Result.andThen, Lib.firstIdx_eq]
 rw [Oper.upon_value]
 go_wp2
 go_ret
 exact ⟨rfl, rfl⟩
theorem ret_bool {a b : Bool} (h : a = b) : Ending.returned (.bool a) = Ending.returned (.bool b) := by rw [h]
end Go.Proofs.YtkdfgkbojbdelaaGreatDoor
namespace Go.Proofs.YtkdfgkbojbdelaaGreatDoor
open Go Go.RowKit
theorem conv_sl (w : World) (s : ByteArray) (hs : s.size <= maxLen) :
 SlAt encU8 (fun g => g = w.heap.size) (Lib.bytesWorld w 5 s) (some ⟨w.heap.size, 0, none⟩) (grownCap w s.size 0 5) s.data.toList ∧ Keeps NoB w (Lib.bytesWorld w 5 s) := by
 have hge : s.size <= grownCap w s.size 0 5 := grownCap_ge w s.size 0 5
 have hle := grownCap_le_maxLen w s.size 0 5 hs
 have hsize := Lib.bytesWorld_size w 5 s
 have hl : s.data.toList.length = s.size := len_data s
 refine ⟨⟨by rw [hl]; exact hge, hle, (fun h => by cases h), (fun _ a ha => by cases ha; rfl), fun _ => ⟨w.heap.size, 0, rfl, rfl, by rw [hsize]; omega, fun j hj => ?_⟩⟩, ?_⟩
 ·have hj2 : j < s.data.toList.length := by simpa [encU8] using hj
  rw [Nat.zero_add, Lib.bytesWorld_cell w 5 s j hj2]
  have := Enc.flat_get encU8 s.data.toList j 0 (by decide)
  simp only [show encU8.k = 1 from rfl, Nat.mul_one, Nat.add_zero] at this
  rw [this, List.getElem?_eq_getElem hj2]
  simp [List.getD, List.getElem?_eq_getElem hj2, encU8]
 ·refine ⟨?_, ?_, ?_, by omega, fun k hk _ => Lib.bytesWorld_at_old w 5 s k hk⟩
  ·simp [Lib.bytesWorld, World.freeze]; rfl
  ·simp [Lib.bytesWorld, World.freeze]
  ·simp [Lib.bytesWorld, World.freeze]; rfl
end Go.Proofs.YtkdfgkbojbdelaaGreatDoor
namespace Go.Proofs.YtkdfgkbojbdelaaGreatDoor
open Go Go.Shelf Go.RowKit
def lays157_ren : Go.Shelf.Ren :=
{
 f := fun x =>
   match x with
   | 157 => 61
   | 229 => 90
   | 199 => 91
   | 261 => 117
   | 311 => 135
   | 312 => 136
   | n => n,
 t := fun x =>
   match x with
   | 9 => 9
   | 31 => 29
   | 3 => 3
   | 5 => 5
   | 4 => 4
   | 119 => 118
   | 0 => 0
   | 40 => 120
   | 152 => 147
   | 21 => 21
   | 154 => 149
   | 51 => 41
   | 141 => 151
   | 196 => 170
   | 193 => 167
   | 198 => 173
   | 49 => 171
   | 194 => 168
   | 201 => 176
   | 226 => 188
   | 46 => 123
   | 227 => 189
   | n => n,
 g := fun x =>
   match x with
   | 0 => 1
   | 6 => 2
   | n => n }
theorem lays157 : Lays.n157 Tryz.prog lays157_ren :=
{ mixed := Eq.refl true, f157 := Eq.trans Tryz.func61 (congrArg some (Eq.refl (Body.n157 lays157_ren))),
  f199 := Eq.trans Tryz.func91 (congrArg some (Eq.refl (Body.n199 lays157_ren))),
  f229 := Eq.trans Tryz.func90 (congrArg some (Eq.refl (Body.n229 lays157_ren))),
  f261 := Eq.trans Tryz.func117 (congrArg some (Eq.refl (Body.n261 lays157_ren))),
  f311 := Eq.trans Tryz.func135 (congrArg some (Eq.refl (Body.n311 lays157_ren))),
  f312 := Eq.trans Tryz.func136 (congrArg some (Eq.refl (Body.n312 lays157_ren))), t0 := Tryz.underlying0,
  a0 := Tryz.isAgg0, z0 := Tryz.sizeOf0, v0 := Tryz.zeroValue0, t3 := Tryz.underlying3, a3 := Tryz.isAgg3,
  z3 := Tryz.sizeOf3, v3 := Tryz.zeroValue3, t4 := Tryz.underlying4, a4 := Tryz.isAgg4, z4 := Tryz.sizeOf4,
  v4 := Tryz.zeroValue4, t5 := Tryz.underlying5, a5 := Tryz.isAgg5, z5 := Tryz.sizeOf5, v5 := Tryz.zeroValue5,
  t9 := Tryz.underlying9, a9 := Tryz.isAgg9, z9 := Tryz.sizeOf9, v9 := Tryz.zeroValue9, t21 := Tryz.underlying21,
  a21 := Tryz.isAgg21, z21 := Tryz.sizeOf21, v21 := Tryz.zeroValue21, t31 := Tryz.underlying29, a31 := Tryz.isAgg29,
  z31 := Tryz.sizeOf29, v31 := Tryz.zeroValue29, t40 := Tryz.underlying120, a40 := Tryz.isAgg120, z40 := Tryz.sizeOf120,
  v40 := Tryz.zeroValue120, t46 := Tryz.underlying123, a46 := Tryz.isAgg123, z46 := Tryz.sizeOf123,
  v46 := Tryz.zeroValue123, t49 := Tryz.underlying171, a49 := Tryz.isAgg171, z49 := Tryz.sizeOf171,
  v49 := Tryz.zeroValue171, t51 := Tryz.underlying41, a51 := Tryz.isAgg41, z51 := Tryz.sizeOf41,
  v51 := Tryz.zeroValue41, t119 := Tryz.underlying118, a119 := Tryz.isAgg118, z119 := Tryz.sizeOf118,
  t141 := Tryz.underlying151, a141 := Tryz.isAgg151, z141 := Tryz.sizeOf151, v141 := Tryz.zeroValue151,
  t152 := Tryz.underlying147, a152 := Tryz.isAgg147, z152 := Tryz.sizeOf147, v152 := Tryz.zeroValue147,
  t154 := Tryz.underlying149, a154 := Tryz.isAgg149, z154 := Tryz.sizeOf149, v154 := Tryz.zeroValue149,
  t193 := Tryz.underlying167, a193 := Tryz.isAgg167, z193 := Tryz.sizeOf167, v193 := Tryz.zeroValue167,
  t194 := Tryz.underlying168, a194 := Tryz.isAgg168, z194 := Tryz.sizeOf168, v194 := Tryz.zeroValue168,
  t196 := Tryz.underlying170, a196 := Tryz.isAgg170, z196 := Tryz.sizeOf170, v196 := Tryz.zeroValue170,
  t198 := Tryz.underlying173, a198 := Tryz.isAgg173, z198 := Tryz.sizeOf173, v198 := Tryz.zeroValue173,
  t201 := Tryz.underlying176, a201 := Tryz.isAgg176, z201 := Tryz.sizeOf176, v201 := Tryz.zeroValue176,
  t226 := Tryz.underlying188, a226 := Tryz.isAgg188, z226 := Tryz.sizeOf188, v226 := Tryz.zeroValue188,
  t227 := Tryz.underlying189, a227 := Tryz.isAgg189, z227 := Tryz.sizeOf189, v227 := Tryz.zeroValue189,
  g0 := by kernel_rfl, g6 := by kernel_rfl }
def lays138_ren : Go.Shelf.Ren :=
{
 f := fun x =>
   match x with
   | 138 => 37
   | 195 => 58
   | 218 => 59
   | 143 => 60
   | 219 => 89
   | 217 => 56
   | 225 => 114
   | 224 => 115
   | 267 => 116
   | 266 => 87
   | 314 => 134
   | n => n,
 t := fun x =>
   match x with
   | 9 => 9
   | 3 => 3
   | 4 => 4
   | 5 => 5
   | 0 => 0
   | 46 => 123
   | 146 => 165
   | 51 => 41
   | n => n,
 g := fun x =>
   match x with
   | 1 => 0
   | n => n }
theorem lays138 : Lays.n138 Tryz.prog lays138_ren :=
{ mixed := Eq.refl true, f138 := Eq.trans Tryz.func37 (congrArg some (Eq.refl (Body.n138 lays138_ren))),
  f143 := Eq.trans Tryz.func60 (congrArg some (Eq.refl (Body.n143 lays138_ren))),
  f195 := Eq.trans Tryz.func58 (congrArg some (Eq.refl (Body.n195 lays138_ren))),
  f217 := Eq.trans Tryz.func56 (congrArg some (Eq.refl (Body.n217 lays138_ren))),
  f218 := Eq.trans Tryz.func59 (congrArg some (Eq.refl (Body.n218 lays138_ren))),
  f219 := Eq.trans Tryz.func89 (congrArg some (Eq.refl (Body.n219 lays138_ren))),
  f224 := Eq.trans Tryz.func115 (congrArg some (Eq.refl (Body.n224 lays138_ren))),
  f225 := Eq.trans Tryz.func114 (congrArg some (Eq.refl (Body.n225 lays138_ren))),
  f266 := Eq.trans Tryz.func87 (congrArg some (Eq.refl (Body.n266 lays138_ren))),
  f267 := Eq.trans Tryz.func116 (congrArg some (Eq.refl (Body.n267 lays138_ren))),
  f314 := Eq.trans Tryz.func134 (congrArg some (Eq.refl (Body.n314 lays138_ren))), t0 := Tryz.underlying0,
  a0 := Tryz.isAgg0, z0 := Tryz.sizeOf0, v0 := Tryz.zeroValue0, t3 := Tryz.underlying3, a3 := Tryz.isAgg3,
  z3 := Tryz.sizeOf3, v3 := Tryz.zeroValue3, t4 := Tryz.underlying4, a4 := Tryz.isAgg4, z4 := Tryz.sizeOf4,
  v4 := Tryz.zeroValue4, t5 := Tryz.underlying5, a5 := Tryz.isAgg5, z5 := Tryz.sizeOf5, v5 := Tryz.zeroValue5,
  t9 := Tryz.underlying9, a9 := Tryz.isAgg9, z9 := Tryz.sizeOf9, v9 := Tryz.zeroValue9, t46 := Tryz.underlying123,
  a46 := Tryz.isAgg123, z46 := Tryz.sizeOf123, v46 := Tryz.zeroValue123, t51 := Tryz.underlying41, a51 := Tryz.isAgg41,
  z51 := Tryz.sizeOf41, v51 := Tryz.zeroValue41, t146 := Tryz.underlying165, a146 := Tryz.isAgg165,
  z146 := Tryz.sizeOf165, v146 := Tryz.zeroValue165, g1 := by kernel_rfl }
def As22 (w : World) : Prop := ∀ c : Nat, c < 256 -> w.cell? ⟨1, c, none⟩ = some (.int .u8 (if Lib.isSp (UInt8.ofNat c) then 1 else 0))
theorem As22.on {w w' : World} (h : As22 w) (k : Keeps NoB w w') : As22 w' := fun c hc => (k.cell (p := ⟨1, c, none⟩) (lt_of_cell (h c hc)) (fun h => h)).trans (h c hc)
theorem fields_asc (s : ByteArray) (w : World) (hs : s.size <= 1000000) (ha : ∀ (j : Nat) b, s.data.toList[j]? = some b -> b.toNat < 128) (h : As22 w) :
 Calls Tryz.prog 61 #[.string s] w fun e w' => e = .returned (.slice (some ⟨w.heap.size, 0, none⟩) (Lib.fields s.data.toList).length (Lib.fields s.data.toList).length) ∧ Keeps NoB w w' := by
 refine (Any.strings_Fields_core lays157 (by kernel_rfl) s w (by omega) ha h).mono ?_
 rintro e w' ⟨h1, rfl⟩
 exact ⟨h1, (Keeps.refl _ _).alloc _⟩
theorem count_nl (s : ByteArray) (w : World) : Calls Tryz.prog 37 #[.string s, .string ⟨#[10]⟩] w fun e w' => e = .returned (.int .i64 (Lib.countByte s.data.toList 10)) ∧ w = w' := by
 refine (Any.strings_Count_one lays138 s 10 w).mono ?_
 rintro e w' ⟨h1, rfl⟩
 exact ⟨h1, rfl⟩
theorem sl_str {S : Nat -> Prop} {w : World} {g cap : Nat} {l : List UInt8} (h : SlAt encU8 S w (some ⟨g, 0, none⟩) cap l) (h0 : 0 < l.length) :
 (convert 28 9 (.slice (some ⟨g, 0, none⟩) l.length cap)).run Tryz.prog w = .ok (.string ⟨l.toArray⟩) w := by
 have := run_convert_bytes_back (P := Tryz.prog) w 28 9 5 ⟨g, 0, none⟩ cap l Tryz.underlying28 Tryz.underlying5 Tryz.underlying9 (fun j hj => by
  obtain ⟨g', off, e, _, _, hc⟩ := h.at (List.getElem?_eq_getElem hj)
  cases e
  have := hc 0 _ rfl
  rw [add_lit, Nat.zero_add]
  simpa [encU8] using this)
 simpa using this
end Go.Proofs.YtkdfgkbojbdelaaGreatDoor
