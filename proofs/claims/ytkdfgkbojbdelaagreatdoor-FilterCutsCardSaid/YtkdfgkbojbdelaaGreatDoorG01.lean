/-
  Lemmas on memory that speak of no program: what a call keeps (Keeps), slices that are read (Sl) and slices that are owned (Own), and what append and copy do to them.
-/
import Derived.WalkKit
import Derived.WalkSpells
import Derived.WalkLawsBesides
import Derived.Lib.Hide
import Derived.Lib.Bytealg
import Derived.Lib.AppendZeros
import Derived.Lib.AppendZerosOnto
import Derived.Lib.Overlaps
import Derived.Deep.AppendSrc
import Derived.Deep.Draws
import Derived.KernelRfl
import Derived.Lib.MinMaxS
import Derived.Test.YtkdfgkbojbdelaaGreatDoorProg
import Derived.Lib.Slices
import Derived.Lib.SplitLaws
import Derived.Shelf.Strings.SplitCore
import Derived.Shelf.Strings.Count
import Derived.Shelf.Strings.Repeat
import Derived.Lib.Builder
import Derived.Lib.AppendStr

set_option linter.unusedSimpArgs false
set_option linter.unusedVariables false
set_option maxRecDepth 100000
namespace Go.Proofs.YtkdfgkbojbdelaaGreatDoor
open Go.RowKit
def NoB : Nat -> Prop := fun _ => False
structure Keeps (F : Nat -> Prop) (w w' : World) : Prop where
 os : w'.os = w.os
 tape : w'.tape = w.tape
 output : w'.output = w.output
 size : w.heap.size <= w'.heap.size
 block : ∀ k, k < w.heap.size -> ¬ F k -> w'.heap[k]? = w.heap[k]?
theorem Keeps.refl (F : Nat -> Prop) (w : World) : Keeps F w w := ⟨rfl, rfl, rfl, Nat.le_refl _, fun _ _ _ => rfl⟩
theorem Keeps.trans' {F G H : Nat -> Prop} {a b c : World} (h : Keeps F a b) (k : Keeps G b c) (hF : ∀ g, g < a.heap.size -> F g -> H g) (hG : ∀ g, g < a.heap.size -> G g -> H g) : Keeps H a c :=
 ⟨k.os.trans h.os, k.tape.trans h.tape, k.output.trans h.output, Nat.le_trans h.size k.size,
  fun i hi hn => (k.block i (Nat.lt_of_lt_of_le hi h.size) (fun hg => hn (hG i hi hg))).trans (h.block i hi (fun hf => hn (hF i hi hf)))⟩
theorem Keeps.trans {F : Nat -> Prop} {a b c : World} (h : Keeps F a b) (k : Keeps F b c) : Keeps F a c := h.trans' k (fun _ _ h => h) (fun _ _ h => h)
theorem Keeps.step {F G : Nat -> Prop} {a b c : World} (h : Keeps F a b) (k : Keeps G b c) (hG : ∀ g, G g -> F g ∨ a.heap.size <= g) : Keeps F a c :=
 h.trans' k (fun _ _ h => h) (fun g hg h => (hG g h).elim id (fun h => absurd hg (by omega)))
theorem Keeps.mono {F G : Nat -> Prop} {a b : World} (h : Keeps F a b) (hFG : ∀ g, g < a.heap.size -> F g -> G g) : Keeps G a b :=
 ⟨h.os, h.tape, h.output, h.size, fun i hi hn => h.block i hi (fun hf => hn (hFG i hi hf))⟩
theorem Keeps.of_none {F : Nat -> Prop} {a b : World} (h : Keeps NoB a b) : Keeps F a b := h.mono (fun _ _ h => h.elim)
theorem Keeps.alloc {F : Nat -> Prop} {a w : World} (h : Keeps F a w) (o : Obj) : Keeps F a (w.alloc o) :=
 h.trans ⟨rfl, rfl, rfl, by simp, fun k hk _ => Below.heap_alloc _ _ _ hk⟩
theorem Keeps.drew {F : Nat -> Prop} {a w : World} (h : Keeps F a w) : Keeps F a w.drew := ⟨h.os, h.tape, h.output, h.size, h.block⟩
theorem Keeps.drewN {F : Nat -> Prop} {a w : World} (h : Keeps F a w) (n : Nat) : Keeps F a (w.drewN n) := ⟨h.os, h.tape, h.output, h.size, h.block⟩
theorem Keeps.setCell {F : Nat -> Prop} {a w : World} (h : Keeps F a w) {p : Addr} (hp : F p.block ∨ a.heap.size <= p.block) (u : Value) : Keeps F a (w.setCell p u) :=
 ⟨h.os, h.tape, h.output, by have := h.size; simpa [World.setCell] using this, fun k hk hn => by
   rw [Below.heap_setCell _ _ _ _ (by rcases hp with hp | hp; · intro e; subst e; exact hn hp
                                      ·omega)]; exact h.block k hk hn⟩
theorem Keeps.below {F : Nat -> Prop} {B : Nat} {w w' : World} (h : Keeps F w w') (hB : B <= w.heap.size) (hF : ∀ g, g < B -> ¬ F g) : Below B w w' :=
 ⟨h.os, h.tape, h.output, h.size, fun k hk => h.block k (by omega) (hF k hk)⟩
theorem Keeps.cell {F : Nat -> Prop} {w w' : World} (h : Keeps F w w') {p : Addr} (hp : p.block < w.heap.size) (hF : ¬ F p.block) : w'.cell? p = w.cell? p :=
 World.cell?_of_block (w := w) (h.block p.block hp hF)
theorem Keeps.frozen {F : Nat -> Prop} {w w' : World} (h : Keeps F w w') {p : Addr} (hp : p.block < w.heap.size) (hF : ¬ F p.block) : w'.frozen? p = w.frozen? p :=
 World.frozen?_of_block (w := w) (h.block p.block hp hF)
theorem lt_of_cell {w : World} {a : Addr} {v : Value} (h : w.cell? a = some v) : a.block < w.heap.size := block_lt_of_cell h
theorem lt_of_block {w : World} {g : Nat} {o : Obj} (h : w.heap[g]? = some o) : g < w.heap.size := (Array.getElem?_eq_some_iff.1 h).1
theorem add_lit (g off j : Nat) : (⟨g, off, none⟩ : Addr).add j = ⟨g, off + j, none⟩ := by unfold Addr.add; split <;> simp_all
structure Enc (α : Type) where
 enc : α -> List Value
 k : Nat
 pos : 0 < k
 len : ∀ x, (enc x).length = k
 one : ∀ x, ∀ v ∈ enc x, v.oneCell' = true
section
variable {α : Type} (E : Enc α)
theorem Enc.flat_len (l : List α) : (l.flatMap E.enc).length = l.length * E.k := by
 induction l with
 | nil => simp
 | cons a l ih => simp [ih, E.len, Nat.add_mul]; omega
theorem Enc.flat_get (l : List α) (i j : Nat) (hj : j < E.k) : (l.flatMap E.enc)[i * E.k + j]? = (l[i]?).bind fun x => (E.enc x)[j]? := by
 induction l generalizing i with
 | nil => simp
 | cons a l ih =>
   rw [List.flatMap_cons]
   cases i with
   | zero => simp only [Nat.zero_mul, Nat.zero_add]; rw [List.getElem?_append_left (by rw [E.len]; exact hj)]; rfl
   | succ i =>
     rw [List.getElem?_append_right (by rw [E.len, Nat.add_mul]; omega), E.len]
     rw [show (i + 1) * E.k + j - E.k = i * E.k + j by rw [Nat.add_mul]; omega, ih]
     rfl
theorem Enc.flat_take (l : List α) (n : Nat) : (l.take n).flatMap E.enc = (l.flatMap E.enc).take (n * E.k) := by
 induction l generalizing n with
 | nil => simp
 | cons a l ih =>
   cases n with
   | zero => simp
   | succ n =>
     rw [List.take_succ_cons, List.flatMap_cons, List.flatMap_cons, ih, List.take_append, E.len]
     rw [List.take_of_length_le (l := E.enc a) (by rw [E.len, Nat.add_mul]; omega), show (n + 1) * E.k - E.k = n * E.k by rw [Nat.add_mul]; omega]
theorem Enc.flat_drop (l : List α) (n : Nat) : (l.drop n).flatMap E.enc = (l.flatMap E.enc).drop (n * E.k) := by
 induction l generalizing n with
 | nil => simp
 | cons a l ih =>
   cases n with
   | zero => simp
   | succ n =>
     rw [List.drop_succ_cons, List.flatMap_cons, ih, List.drop_append, E.len]
     rw [List.drop_of_length_le (l := E.enc a) (by rw [E.len, Nat.add_mul]; omega), show (n + 1) * E.k - E.k = n * E.k by rw [Nat.add_mul]; omega]
     rfl
structure SlAt (S : Nat -> Prop) (w : World) (p : Option Addr) (c : Nat) (l : List α) : Prop where
 cap : l.length <= c
 max : c <= maxLen
 nilc : p = none -> c = 0
 spot : 0 < c -> ∀ a, p = some a -> a.spot = none
 cells : 0 < l.length -> ∃ g off, p = some ⟨g, off, none⟩ ∧ S g ∧ g < w.heap.size ∧ ∀ j, j < l.length * E.k -> w.cell? ⟨g, off + j, none⟩ = (l.flatMap E.enc)[j]?
def Sl (S : Nat -> Prop) (w : World) (v : Value) (l : List α) : Prop := ∃ p c, v = .slice p l.length c ∧ SlAt E S w p c l
variable {E} {S : Nat -> Prop} {w : World} {p : Option Addr} {c : Nat} {l : List α} {v : Value}
theorem Sl.nil (E : Enc α) (S : Nat -> Prop) (w : World) : Sl E S w (.slice none 0 0) [] :=
 ⟨none, 0, rfl, by simp, by simp, fun _ => rfl, (fun h => by omega), (fun h => by simp at h)⟩
theorem SlAt.keep {F : Nat -> Prop} {w' : World} (h : SlAt E S w p c l) (k : Keeps F w w') (hF : ∀ g, S g -> g < w.heap.size -> ¬ F g) : SlAt E S w' p c l :=
 ⟨h.cap, h.max, h.nilc, h.spot, fun h0 => by
   obtain ⟨g, off, rfl, hS, hg, hc⟩ := h.cells h0
   exact ⟨g, off, rfl, hS, Nat.lt_of_lt_of_le hg k.size, fun j hj => (k.cell hg (hF g hS hg)).trans (hc j hj)⟩⟩
theorem Sl.keep {F : Nat -> Prop} {w' : World} (h : Sl E S w v l) (k : Keeps F w w') (hF : ∀ g, S g -> g < w.heap.size -> ¬ F g) : Sl E S w' v l := by
 obtain ⟨p, c, rfl, h⟩ := h
 exact ⟨p, c, rfl, h.keep k hF⟩
theorem Sl.keepN {w' : World} (h : Sl E S w v l) (k : Keeps NoB w w') : Sl E S w' v l := h.keep k (fun _ _ _ h => h)
theorem SlAt.keepN {w' : World} (h : SlAt E S w p c l) (k : Keeps NoB w w') : SlAt E S w' p c l := h.keep k (fun _ _ _ h => h)
theorem Sl.mono {S' : Nat -> Prop} (h : Sl E S w v l) (hS : ∀ g, S g -> g < w.heap.size -> S' g) : Sl E S' w v l := by
 obtain ⟨p, c, rfl, h⟩ := h
 refine ⟨p, c, rfl, h.cap, h.max, h.nilc, h.spot, fun h0 => ?_⟩
 obtain ⟨g, off, rfl, hSg, hg, hc⟩ := h.cells h0
 exact ⟨g, off, rfl, hS g hSg hg, hg, hc⟩
theorem SlAt.at (h : SlAt E S w p c l) {i : Nat} {x : α} (hi : l[i]? = some x) :
 ∃ g off, p = some ⟨g, off, none⟩ ∧ S g ∧ g < w.heap.size ∧ ∀ j u, (E.enc x)[j]? = some u -> w.cell? ⟨g, off + (i * E.k + j), none⟩ = some u := by
 obtain ⟨hil, hix⟩ := List.getElem?_eq_some_iff.1 hi
 obtain ⟨g, off, hp, hS, hg, hc⟩ := h.cells (by omega)
 refine ⟨g, off, hp, hS, hg, fun j u hu => ?_⟩
 have hj : j < E.k := by have := (List.getElem?_eq_some_iff.1 hu).1; rw [E.len] at this; exact this
 have hlt : i * E.k + j < l.length * E.k := by
  have : (i + 1) * E.k <= l.length * E.k := Nat.mul_le_mul_right _ hil
  rw [Nat.add_mul] at this; omega
 rw [hc _ hlt, E.flat_get l i j hj, hi]
 exact hu
def subAt (k : Nat) (p : Option Addr) (c i : Nat) : Option Addr := if c = i then p else p.map (·.add (i * k))
theorem SlAt.sub (h : SlAt E S w p c l) (i k : Nat) (hik : i <= k) (hk : k <= l.length) : SlAt E S w (subAt E.k p c i) (c - i) ((l.take k).drop i) := by
 have hcap := h.cap
 have hmax := h.max
 unfold subAt
 by_cases hci : c = i
 ·rw [if_pos hci]
  exact ⟨by simp; omega, by omega, fun _ => by omega, (fun h0 => by omega), fun h0 => by simp at h0; omega⟩
 ·rw [if_neg hci]
  cases p with
  | none => exact absurd (h.nilc rfl) (by omega)
  | some a =>
    have hsp := h.spot (by omega) a rfl
    obtain ⟨g, off, sp⟩ := a
    subst hsp
    simp only [Option.map_some, add_lit]
    refine ⟨by simp; omega, by omega, (fun h => by cases h), (fun _ a ha => by cases ha; rfl), fun h0 => ?_⟩
    obtain ⟨g', off', hp, hS, hg, hc⟩ := h.cells (by simp at h0; omega)
    cases hp
    refine ⟨g, off + i * E.k, rfl, hS, hg, fun j hj => ?_⟩
    have hkl : ((l.take k).drop i).length = k - i := by simp; omega
    rw [hkl] at hj
    rw [Nat.add_assoc, hc _ (by
     have : (k - i + i) * E.k <= l.length * E.k := Nat.mul_le_mul_right _ (by omega)
     rw [Nat.add_mul] at this; omega)]
    rw [E.flat_drop, E.flat_take, List.getElem?_drop, List.getElem?_take]
    rw [if_pos (by
     have : (k - i + i) * E.k <= k * E.k := Nat.mul_le_mul_right _ (by omega)
     rw [Nat.add_mul] at this; omega)]
def Own (E : Enc α) (e : TypeId) (S : Nat -> Prop) (w : World) (v : Value) (l : List α) : Prop :=
 w.ownsRow 0 e E.k v l.length (l.flatMap E.enc) ∧ ∀ g, v.ownBlock = some g -> S g
theorem Own.nil (E : Enc α) (e : TypeId) (S : Nat -> Prop) (w : World) : Own E e S w (.slice none 0 0) [] :=
 ⟨by simpa using World.ownsRow_nil w 0 e E.k, fun g h => by simp [Value.ownBlock] at h⟩
variable {e : TypeId}
theorem Own.lt (h : Own E e S w v l) : ∀ g, v.ownBlock = some g -> g < w.heap.size := fun g hg => (h.1.lt g hg).2
theorem Own.keep {F : Nat -> Prop} {w' : World} (h : Own E e S w v l) (k : Keeps F w w') (hF : ∀ g, v.ownBlock = some g -> ¬ F g) : Own E e S w' v l := by
 refine ⟨⟨h.1.1, ?_⟩, h.2⟩
 rcases h.1.2 with hn | ⟨g, cap, cur, hv, hg, hh, r⟩
 ·exact .inl hn
 ·subst hv
  exact .inr ⟨g, cap, cur, rfl, hg, (k.block g (lt_of_block hh) (hF g rfl)).trans hh, r⟩
theorem Own.mono {S' : Nat -> Prop} (h : Own E e S w v l) (hS : ∀ g, v.ownBlock = some g -> S g -> S' g) : Own E e S' w v l :=
 ⟨h.1, fun g hg => hS g hg (h.2 g hg)⟩
theorem Own.sl (h : Own E e S w v l) : Sl E S w v l := by
 rcases h.1.2 with ⟨rfl, hn⟩ | ⟨g, cap, cur, rfl, _, hg, hcap, hmax, hsz, htk⟩
 ·have : l = [] := List.eq_nil_of_length_eq_zero hn
  subst this
  exact Sl.nil E S w
 ·refine ⟨_, cap, rfl, hcap, hmax, (fun h => by cases h), (fun _ a ha => by cases ha; rfl), fun _ => ⟨g, 0, rfl, h.2 g rfl, lt_of_block hg, fun j hj => ?_⟩⟩
  rw [cell_of_row w g _ cur e (0, 0) hg, <- htk, List.getElem?_take, if_pos hj, Nat.zero_add]
  simp
theorem Own.at (h : Own E e S w (.slice p l.length c) l) : SlAt E S w p c l := by
 obtain ⟨p', c', hpc, hs⟩ := h.sl
 cases hpc
 exact hs
theorem Own.mk {g cap : Nat} {cur : Array Value} (hS : S g) (hg : w.heap[g]? = some (.cells cur e (0, 0))) (hcap : l.length <= cap) (hmax : cap <= maxLen) (hsz : cur.size = cap * E.k)
 (htk : cur.toList.take (l.length * E.k) = l.flatMap E.enc) : Own E e S w (.slice (some ⟨g, 0, none⟩) l.length cap) l :=
 ⟨⟨E.flat_len l, .inr ⟨g, cap, cur, rfl, Nat.zero_le _, hg, hcap, hmax, hsz, htk⟩⟩, fun g' h => by simp [Value.ownBlock] at h; subst h; exact hS⟩
end
def encStr : Enc ByteArray where
 enc := fun s => [.string s]
 k := 1
 pos := by decide
 len := fun _ => rfl
 one := fun x v hv => by simp at hv; subst hv; rfl
theorem SlAt.str {S : Nat -> Prop} {w : World} {p : Option Addr} {c : Nat} {l : List ByteArray} (h : SlAt encStr S w p c l) {i : Nat} {x : ByteArray} (hi : l[i]? = some x) :
 ∃ g off, p = some ⟨g, off, none⟩ ∧ S g ∧ g < w.heap.size ∧ w.cell? ⟨g, off + i, none⟩ = some (.string x) := by
 obtain ⟨g, off, hp, hS, hg, hc⟩ := h.at hi
 refine ⟨g, off, hp, hS, hg, ?_⟩
 have := hc 0 _ rfl
 rwa [Nat.add_zero, show encStr.k = 1 from rfl, Nat.mul_one] at this
section
variable {α : Type} {E : Enc α} {P : Program} {t e : TypeId} {z : α} {bytes : Nat} {S : Nat -> Prop} {w : World}
theorem own_fresh (l spare : List α) (hS : S w.heap.size) (hmax : l.length + spare.length <= maxLen) (cs : Array Value) (hcs : cs.toList = (l ++ spare).flatMap E.enc) :
 Own E e S (w.alloc (.cells cs e)) (.slice (some ⟨w.heap.size, 0, none⟩) l.length (l.length + spare.length)) l := by
 refine Own.mk (cur := cs) hS (heap_alloc_new w _) (by omega) hmax ?_ ?_
 ·rw [<- Array.length_toList, hcs, E.flat_len]; simp
 ·rw [hcs, <- E.flat_take]; simp
theorem own_lit (l : List α) (cs : Array Value) (hcs : cs.toList = l.flatMap E.enc) (n : Nat) (hn : n = l.length) (hS : S w.heap.size) (hm : n <= maxLen) :
 Own E e S (w.alloc (.cells cs e)) (.slice (some ⟨w.heap.size, 0, none⟩) n n) l := by
 subst hn
 have := own_fresh (E := E) (e := e) (S := S) (w := w) l [] hS (by simpa using hm) cs (by simpa using hcs)
 simpa using this
end
theorem run_slice_l {P : Program} (t e : TypeId) (size : Nat) (ht : P.underlying t = some (.slice e)) (hz : (P.info? e).map (·.size) = some size) (p : Option Addr) (n c i : Nat) (h1 : i <= n) (w : World) (hc : n <= 9223372036854775807) :
 (Instr.slice t (.slice p n c) (some (.int .i64 i)) none none).run P w = .ok (.slice (subAt size p c i) (n - i) (c - i)) w := by
 cases hi : P.info? e with
 | none => rw [hi] at hz; cases hz
 | some inf =>
   rw [hi] at hz
   have hs : inf.size = size := by simpa using hz
   simp [Instr.slice, Instr.sliceBounds, Instr.sliceBound, asIntOf, run_underlying ht, sizeOf, typeInfo, hi, hs, subAt, h1]
end Go.Proofs.YtkdfgkbojbdelaaGreatDoor
namespace Go.Proofs.YtkdfgkbojbdelaaGreatDoor
def bIdx (s : ByteArray) (c : UInt8) : Int := Lib.indexByte s.data.toList c
/-! ### what a rising list gives -/
end Go.Proofs.YtkdfgkbojbdelaaGreatDoor
namespace Go.Proofs.YtkdfgkbojbdelaaGreatDoor
open Go.RowKit
set_option maxHeartbeats 400000 in
theorem ib_any (s : ByteArray) (c : Int) (w : World) :
 Calls Tryz.prog 33 #[.string s, .int .u8 c] w fun e w' => e = .returned (.int .i64 (bIdx s c.toNat.toUInt8)) ∧ w = w' := by
 go_enter Tryz.func33, Tryz.ntmps33
 go_wp2
 rw [run_callFunc_extern Tryz.func87 (by kernel_rfl) (by kernel_rfl) (by kernel_rfl) (e := Extern.BytealgIndexByte.indexByte) (by kernel_rfl), run_indexByte_string]
 simp only [Result.andThen, Lib.firstIdx_eq]
 rw [Oper.upon_value]
 go_wp2
 go_ret
 exact ⟨rfl, rfl⟩
theorem ret_bool {a b : Bool} (h : a = b) : Ending.returned (.bool a) = Ending.returned (.bool b) := by rw [h]
end Go.Proofs.YtkdfgkbojbdelaaGreatDoor
namespace Go.Proofs.YtkdfgkbojbdelaaGreatDoor
theorem len_data (s : ByteArray) : s.data.toList.length = s.size := (Lib.size_eq s).symm
theorem data_extract (s : ByteArray) (i j : Nat) : (s.extract i j).data.toList = (s.data.toList.take j).drop i := by
 rw [Lib.extract_data, List.drop_take]
end Go.Proofs.YtkdfgkbojbdelaaGreatDoor
namespace Go.Proofs.YtkdfgkbojbdelaaGreatDoor
open Go Go.RowKit
theorem bIdx_some {s : ByteArray} {c : UInt8} {o : Nat} (h : bIdx s c = o) : ∃ ho : o < s.size, s[o] = c ∧ ∀ (j : Nat) (hj : j < s.size), j < o -> ¬ s[j] = c := by
 obtain ⟨h1, h2⟩ := Lib.indexByte_some h
 obtain ⟨h3, h4⟩ := List.getElem?_eq_some_iff.1 h1
 rw [len_data] at h3
 exact ⟨h3, h4, fun j hj hlt e => h2 j hlt (by rw [List.getElem?_eq_getElem (by rw [len_data]; exact hj)]; exact congrArg some e)⟩
theorem bIdx_cases (s : ByteArray) (c : UInt8) : bIdx s c = -1 ∨ ∃ o : Nat, bIdx s c = o := by
 have := Lib.indexByte_ge s.data.toList c
 unfold bIdx
 by_cases h : Lib.indexByte s.data.toList c = -1
 ·exact .inl h
 ·exact .inr ⟨(Lib.indexByte s.data.toList c).toNat, by omega⟩
theorem kset (w : World) (p : Addr) (u : Value) : Keeps (fun x => x = p.block) w (w.setCell p u) := Keeps.setCell (p := p) (Keeps.refl (fun x => x = p.block) w) (Or.inl rfl) u
theorem ba_eq {a b : ByteArray} (h : a.data.toList = b.data.toList) : a = b := ByteArray.ext (Array.toList_inj.1 h)
theorem xell_set {w : World} {g j k : Nat} {v u : Value} (h : w.cell? ⟨g, j, none⟩ = some v) : (w.setCell ⟨g, k, none⟩ u).cell? ⟨g, j, none⟩ = some (if j = k then u else v) := by
 by_cases e : j = k
 ·subst e; rw [if_pos rfl]; exact World.cell?_setCell_same _ _ _ h
 ·rw [if_neg e, World.cell?_setCell_other _ _ _ _ (by simp [e])]; exact h
theorem xrozen_set (w : World) (p q : Addr) (u : Value) : (w.setCell p u).frozen? q = w.frozen? q := by simp
structure Bk (w : World) (B : Nat) (l : List Value) : Prop where
 lt : B < w.heap.size
 cell : ∀ i v, l[i]? = some v -> w.cell? ⟨B, i, none⟩ = some v
 fz : ∀ j, w.frozen? ⟨B, j, none⟩ = false
section
variable {w w' : World} {B : Nat} {l : List Value}
theorem Bk.new {cs : Array Value} {T : TypeId} (k : Keeps NoB (w.alloc (.cells cs T)) w') : Bk w' w.heap.size cs.toList := by
 have hn := heap_alloc_new w (.cells cs T)
 have h4 := (k.block w.heap.size (by simp) (fun h => h)).trans hn
 refine ⟨Nat.lt_of_lt_of_le (by simp) k.size, fun i v hv => ?_, fun j => frozen_of_row w' _ j _ T h4⟩
 rw [cell_of_row w' _ i _ T (0, 0) h4, <- Array.getElem?_toList]
 exact hv
theorem Bk.keep {G : Nat -> Prop} (h : Bk w B l) (k : Keeps G w w') (hB : ¬ G B) : Bk w' B l :=
 ⟨Nat.lt_of_lt_of_le h.lt k.size, fun i v hv => (k.cell (p := ⟨B, i, none⟩) h.lt hB).trans (h.cell i v hv), fun j => (k.frozen (p := ⟨B, j, none⟩) h.lt hB).trans (h.fz j)⟩
theorem Bk.on (h : Bk w B l) (k : Keeps NoB w w') : Bk w' B l := h.keep k (fun h => h)
theorem Bk.put (h : Bk w B l) (i : Nat) (v : Value) : Bk (w.setCell ⟨B, i, none⟩ v) B (l.set i v) := by
 refine ⟨by simpa using h.lt, fun j u hu => ?_, fun j => (xrozen_set _ _ _ _).trans (h.fz j)⟩
 rw [List.getElem?_set] at hu
 split at hu
 ·next e =>
  subst e
  split at hu
  ·next hl =>
   cases hu
   have := xell_set (k := i) (u := v) (h.cell i _ (List.getElem?_eq_getElem hl))
   rw [if_pos rfl] at this
   exact this
  ·cases hu
 ·next e =>
  have := xell_set (k := i) (u := v) (h.cell j u hu)
  rw [if_neg (fun x => e x.symm)] at this
  exact this
end
end Go.Proofs.YtkdfgkbojbdelaaGreatDoor
namespace Go.Proofs.YtkdfgkbojbdelaaGreatDoor
theorem bIdx_lt (s : ByteArray) (c : UInt8) (h : ¬ bIdx s c < 0) : (bIdx s c).toNat < s.size := by
 rcases bIdx_cases s c with h1 | ⟨o, h1⟩
 ·rw [h1] at h; exact absurd (by decide) h
 ·obtain ⟨ho, _⟩ := bIdx_some h1
  rw [h1]
  simpa using ho
def plc (s : ByteArray) : Nat -> Nat -> Nat
 | 0, a => a
 | n + 1, a => if a < s.size then (if bIdx (s.extract a s.size) 10 < 0 then s.size else plc s n (a + (bIdx (s.extract a s.size) 10).toNat + 1)) else a
theorem plc_le (s : ByteArray) : ∀ (n a : Nat), a <= s.size -> plc s n a <= s.size := by
 intro n
 induction n with
 | zero => intro a h; exact h
 | succ n ih =>
   intro a h
   rw [plc]
   split
   ·split
    ·exact Nat.le_refl _
    ·next h1 h2 =>
     refine ih _ ?_
     have := bIdx_lt (s.extract a s.size) 10 h2
     have hz : (s.extract a s.size).size = s.size - a := by rw [ByteArray.size_extract]; omega
     omega
   ·exact h
def plcF (s : ByteArray) (n : Nat) (bytes : Bool) : Nat := if bytes then min n s.size else plc s n 0
theorem plcF_le (s : ByteArray) (n : Nat) (b : Bool) : plcF s n b <= s.size := by
 unfold plcF
 split
 ·exact Nat.min_le_right _ _
 ·exact plc_le s n 0 (Nat.zero_le _)
theorem cut_join (s : ByteArray) (r : Nat) (h : r <= s.size) : s.extract 0 r ++ s.extract r s.size = s := by
 apply ba_eq
 rw [ByteArray.data_append, Array.toList_append, data_extract, data_extract, List.drop_zero, List.take_of_length_le (i := s.size) (by rw [len_data]; exact Nat.le_refl _)]
 exact List.take_append_drop r s.data.toList
end Go.Proofs.YtkdfgkbojbdelaaGreatDoor
set_option maxHeartbeats 4000000
namespace Go.Proofs.YtkdfgkbojbdelaaGreatDoor
open Go Go.RowKit
theorem lib_any (s : ByteArray) (c : UInt8) (w : World) (hz : s.size <= 1000000) : Calls Tryz.prog 82 #[.string s, .int .u8 (c.toNat : Int)] w fun e w' => ∃ r : Int, e = .returned (.int .i64 r) ∧ (-1 <= r ∧ r < s.size) ∧ w = w' := by
 go_enter Tryz.func82, Tryz.ntmps82
 go_wp2
 go_loop [5] (fun v => ∃ k : Int, v = .int .i64 k ∧ -1 <= k ∧ k < s.size) (fun v => (intOf v + 1).toNat)
 case atStart => exact ⟨(s.size : Int) - 1, by go_num, by omega, by omega⟩
 case round =>
  obtain ⟨k, rfl, h1, h2⟩ := hrel
  by_cases h0 : 0 <= k
  ·obtain ⟨j, rfl⟩ : ∃ j : Nat, k = j := ⟨k.toNat, by omega⟩
   have hj : j < s.size := by omega
   obtain ⟨z, hzz⟩ : ∃ z, s[j] = z := ⟨_, rfl⟩
   by_cases hc : z = c
   ·subst hc
    go_wp2
    go_ret
    exact ⟨_, rfl, ⟨by omega, by omega⟩, rfl⟩
   ·have hb : ((z.toNat : Int) == (c.toNat : Int)) = false := by
     rw [beq_eq_false_iff_ne]
     intro e
     exact hc (UInt8.toNat_inj.1 (by omega))
    clear hc
    go_wp2
    go_round
    case rel => exact ⟨(j : Int) - 1, by go_num, by omega, by omega⟩
    case measure => first | (simp [intOf]; done) | (simp [intOf]; omega)
  ·obtain rfl : k = -1 := by omega
   go_wp2
   go_ret
   exact ⟨_, rfl, ⟨by omega, by omega⟩, rfl⟩
theorem last_any (s : ByteArray) (c : UInt8) (w : World) (hz : s.size <= 1000000) : Calls Tryz.prog 52 #[.string s, .int .u8 (c.toNat : Int)] w fun e w' => ∃ r : Int, e = .returned (.int .i64 r) ∧ (-1 <= r ∧ r < s.size) ∧ w = w' := by
 have H := Lib.hid (lib_any s c w hz)
 go_enter Tryz.func52, Tryz.ntmps52
 go_wp2_with (go_at_call 82; go_loud (refine H.out.mono ?_); rintro e w1 ⟨r, rfl, hr, rfl⟩)
 go_ret
 exact ⟨_, rfl, hr, rfl⟩
theorem place_first (s : ByteArray) (n : Nat) (w : World) (hn : n <= 100) (hz : s.size <= 1000) : Calls Tryz.prog 42 #[.string s, .int .i64 (n : Int), .bool false, .bool false] w fun e w' => e = .returned (.int .i64 ((plc s n 0 : Nat) : Int)) ∧ w = w' := by
 obtain ⟨P, hP⟩ : ∃ P, plc s n 0 = P := ⟨_, rfl⟩
 rw [hP]
 have HP := Lib.hid hP
 clear hP
 go_enter Tryz.func42, Tryz.ntmps42
 go_wp2
 go_loop [1, 9] (fun vn va => ∃ m a : Nat, vn = .int .i64 m ∧ va = .int .i64 a ∧ m <= 100 ∧ a <= s.size ∧ Hid (plc s m a = P)) (fun vn _ => (intOf vn).toNat)
 case atStart => exact ⟨n, 0, rfl, rfl, hn, Nat.zero_le _, HP⟩
 case round =>
  obtain ⟨m, a, rfl, rfl, hm, ha, hI⟩ := hrel
  cases m with
  | zero =>
    have HR : Hid (a = P) := hI
    go_wp2
    go_ret
    exact ⟨congrArg (fun x : Nat => Ending.returned (Value.int .i64 (x : Int))) HR.out, rfl⟩
  | succ j =>
    by_cases hlt : a < s.size
    ·have hI2 := hI.out
     rw [plc, if_pos hlt] at hI2
     have hzz : (s.extract a s.size).size = s.size - a := by rw [ByteArray.size_extract]; omega
     have hib := fun wx => ib_any (s.extract a s.size) 10 wx
     rw [show ((10 : Int)).toNat.toUInt8 = 10 from rfl] at hib
     have hlt2 := bIdx_lt (s.extract a s.size) 10
     obtain ⟨bi, hbi⟩ : ∃ bi, bIdx (s.extract a s.size) 10 = bi := ⟨_, rfl⟩
     rw [hbi] at hib hlt2 hI2
     have HIb := Lib.hid hib
     have HI2 := Lib.hid hI2
     have HL2 := Lib.hid hlt2
     clear hib hI2 hI hlt2 hbi
     by_cases hneg : bi < 0
     ·have HR : Hid (s.size = P) := by show s.size = P; have := HI2.out; rw [if_pos hneg] at this; exact this
      go_wp2_with (go_at_call 33; go_loud (refine (HIb.out _).mono ?_); rintro e w3 ⟨rfl, rfl⟩)
      go_ret
      exact ⟨congrArg (fun x : Nat => Ending.returned (Value.int .i64 (x : Int))) HR.out, rfl⟩
     ·have HN := Lib.hid hneg
      obtain ⟨i, rfl⟩ : ∃ i : Nat, bi = i := ⟨bi.toNat, by omega⟩
      have hil : i < s.size - a := by have := HL2.out hneg; rw [hzz] at this; simpa using this
      go_wp2_with (go_at_call 33; go_loud (refine (HIb.out _).mono ?_); rintro e w3 ⟨rfl, rfl⟩)
      go_round
      case rel =>
       refine ⟨j, a + i + 1, by go_num, by go_num, by omega, by omega, ?_⟩
       have := HI2.out
       rw [if_neg (by omega)] at this
       exact this
      case measure => first | (simp [intOf]; done) | (simp [intOf]; omega)
    ·have HR : Hid (a = P) := by show a = P; have := hI.out; rw [plc, if_neg hlt] at this; exact this
     go_wp2
     go_ret
     exact ⟨congrArg (fun x : Nat => Ending.returned (Value.int .i64 (x : Int))) HR.out, rfl⟩
theorem place_bytes (s : ByteArray) (n : Nat) (w : World) (hn : n <= 100) (hz : s.size <= 1000) : Calls Tryz.prog 42 #[.string s, .int .i64 (n : Int), .bool false, .bool true] w fun e w' => e = .returned (.int .i64 ((min n s.size : Nat) : Int)) ∧ w = w' := by
 go_enter Tryz.func42, Tryz.ntmps42
 go_wp2
 go_ret
 exact ⟨congrArg (fun x : Int => Ending.returned (Value.int .i64 x)) (show min (n : Int) (s.size : Int) = ((min n s.size : Nat) : Int) by omega), rfl⟩
theorem place_blast (s : ByteArray) (n : Nat) (w : World) (hn : n <= 100) (hz : s.size <= 1000) : Calls Tryz.prog 42 #[.string s, .int .i64 (n : Int), .bool true, .bool true] w fun e w' => ∃ r : Nat, e = .returned (.int .i64 (r : Int)) ∧ r <= s.size ∧ w = w' := by
 go_enter Tryz.func42, Tryz.ntmps42
 go_wp2
 go_ret
 exact ⟨s.size - min n s.size, congrArg (fun x : Int => Ending.returned (Value.int .i64 x)) (show (s.size : Int) - min (n : Int) (s.size : Int) = ((s.size - min n s.size : Nat) : Int) by omega), by omega, rfl⟩
theorem place_last (s : ByteArray) (n : Nat) (w : World) (hn : n <= 100) (hz : s.size <= 1000) : Calls Tryz.prog 42 #[.string s, .int .i64 (n : Int), .bool true, .bool false] w fun e w' => ∃ r : Nat, e = .returned (.int .i64 (r : Int)) ∧ r <= s.size ∧ w = w' := by
 go_enter Tryz.func42, Tryz.ntmps42
 go_wp2
 go_loop [1, 11] (fun vn va => ∃ m a : Nat, vn = .int .i64 m ∧ va = .int .i64 a ∧ m <= 100 ∧ a <= s.size) (fun vn _ => (intOf vn).toNat)
 case atStart => exact ⟨n, s.size, rfl, rfl, hn, Nat.le_refl _⟩
 case round =>
  obtain ⟨m, a, rfl, rfl, hm, ha⟩ := hrel
  cases m with
  | zero =>
    go_wp2
    go_ret
    exact ⟨a, rfl, ha, rfl⟩
  | succ j =>
    cases a with
    | zero =>
      go_wp2
      go_ret
      exact ⟨0, rfl, Nat.zero_le _, rfl⟩
    | succ b =>
      have hzz : (s.extract 0 b).size = b := by rw [ByteArray.size_extract]; omega
      have HLa := Lib.hid (fun wx => last_any (s.extract 0 b) 10 wx (by omega))
      rw [hzz] at HLa
      go_wp2_with (go_at_call 52; go_loud (refine (HLa.out _).mono ?_); rintro e w3 ⟨r, rfl, ⟨hr1, hr2⟩, rfl⟩)
      go_round
      case rel => exact ⟨j, (r + 1).toNat, by go_num, by first | go_num | (congr 1; omega), by omega, by omega⟩
      case measure => first | (simp [intOf]; done) | (simp [intOf]; omega)
theorem place_F (s : ByteArray) (n : Nat) (b : Bool) (w : World) (hn : n <= 100) (hz : s.size <= 1000) : Calls Tryz.prog 42 #[.string s, .int .i64 (n : Int), .bool false, .bool b] w fun e w' => e = .returned (.int .i64 ((plcF s n b : Nat) : Int)) ∧ w = w' := by
 cases b
 ·exact place_first s n w hn hz
 ·exact place_bytes s n w hn hz
theorem place_L (s : ByteArray) (n : Nat) (b : Bool) (w : World) (hn : n <= 100) (hz : s.size <= 1000) : Calls Tryz.prog 42 #[.string s, .int .i64 (n : Int), .bool true, .bool b] w fun e w' => ∃ r : Nat, e = .returned (.int .i64 (r : Int)) ∧ r <= s.size ∧ w = w' := by
 cases b
 ·exact place_last s n w hn hz
 ·exact place_blast s n w hn hz
set_option maxHeartbeats 2000000
abbrev headB : ByteArray := ⟨#[104, 101, 97, 100]⟩
abbrev tailB : ByteArray := ⟨#[116, 97, 105, 108]⟩
structure Hd (w : World) (N M R B : Nat) (n : Int) (nm : ByteArray) (from' by' : Bool) : Prop where
 n : Bk w N [.int .i64 n]
 m : Bk w M [.string nm]
 r : Bk w R [.bool from']
 b : Bk w B [.bool by']
theorem Hd.on {w w' : World} {N M R B : Nat} {n : Int} {nm : ByteArray} {f b : Bool} (h : Hd w N M R B n nm f b) (k : Keeps NoB w w') : Hd w' N M R B n nm f b := ⟨h.n.on k, h.m.on k, h.r.on k, h.b.on k⟩
section
variable {w : World} {N M R B n : Nat} {s x : ByteArray} {b : Bool}
theorem ends_head (h : Hd w N M R B n headB false b) (hn : n <= 100) (hz : s.size <= 1000) :
 Calls Tryz.prog 41 #[.string s, .string x, .pointer (some ⟨N, 0, none⟩), .pointer (some ⟨M, 0, none⟩), .pointer (some ⟨R, 0, none⟩), .pointer (some ⟨B, 0, none⟩)] w fun e w' => e = .returned (.string (s.extract 0 (plcF s n b))) ∧ w = w' := by
 have HP := Lib.hid (place_F s n b w hn hz)
 have hle := plcF_le s n b
 have n0 := h.n.cell 0 _ rfl
 have m0 := h.m.cell 0 _ rfl
 have r0 := h.r.cell 0 _ rfl
 have b0 := h.b.cell 0 _ rfl
 clear h
 generalize plcF s n b = P at *
 go_enter Tryz.func41, Tryz.ntmps41
 go_wp2_with (go_at_call 42; go_loud (refine HP.out.mono ?_); rintro e w1 ⟨rfl, rfl⟩)
 go_ret
 exact ⟨rfl, rfl⟩
theorem ends_plus (h : Hd w N M R B ((n : Int) + 1) tailB true b) (hn : n <= 99) (hz : s.size <= 1000) :
 Calls Tryz.prog 41 #[.string s, .string x, .pointer (some ⟨N, 0, none⟩), .pointer (some ⟨M, 0, none⟩), .pointer (some ⟨R, 0, none⟩), .pointer (some ⟨B, 0, none⟩)] w fun e w' => e = .returned (.string (s.extract (plcF s n b) s.size)) ∧ w = w' := by
 have HP0 := Lib.hid (place_F s (n + 1) b w (by omega) hz)
 rw [show ((n + 1 : Nat) : Int) = (n : Int) + 1 by omega] at HP0
 have HP := Lib.hid (place_F s n b w (by omega) hz)
 have hle := plcF_le s n b
 have n0 := h.n.cell 0 _ rfl
 have m0 := h.m.cell 0 _ rfl
 have r0 := h.r.cell 0 _ rfl
 have b0 := h.b.cell 0 _ rfl
 clear h
 generalize plcF s n b = P at *
 generalize plcF s (n + 1) b = P0 at *
 go_enter Tryz.func41, Tryz.ntmps41
 go_wp2_with (first | (go_at_call 42; (with_reducible refine HP0.out.mono ?_); rintro e w1 ⟨rfl, rfl⟩) | (go_at_call 42; (with_reducible refine HP.out.mono ?_); rintro e w1 ⟨rfl, rfl⟩))
 go_ret
 exact ⟨rfl, rfl⟩
theorem ends_tail (h : Hd w N M R B n tailB false b) (hn : n <= 100) (hz : s.size <= 1000) :
 Calls Tryz.prog 41 #[.string s, .string x, .pointer (some ⟨N, 0, none⟩), .pointer (some ⟨M, 0, none⟩), .pointer (some ⟨R, 0, none⟩), .pointer (some ⟨B, 0, none⟩)] w fun e w' => ∃ r : Nat, e = .returned (.string (s.extract r s.size)) ∧ r <= s.size ∧ w = w' := by
 have HP := Lib.hid (place_L s n b w hn hz)
 have n0 := h.n.cell 0 _ rfl
 have m0 := h.m.cell 0 _ rfl
 have r0 := h.r.cell 0 _ rfl
 have b0 := h.b.cell 0 _ rfl
 clear h
 go_enter Tryz.func41, Tryz.ntmps41
 go_wp2_with (go_at_call 42; go_loud (refine HP.out.mono ?_); rintro e w1 ⟨r, rfl, hr, rfl⟩)
 go_ret
 exact ⟨r, rfl, hr, rfl⟩
end
set_option maxHeartbeats 4000000
def encU8 : Enc UInt8 where
 enc := fun c => [.int .u8 (c.toNat : Int)]
 k := 1
 pos := by decide
 len := fun _ => rfl
 one := fun x v hv => by simp at hv; subst hv; rfl
section
variable {S : Nat -> Prop} {w w' : World} {b : Nat} {s : List UInt8}
end
end Go.Proofs.YtkdfgkbojbdelaaGreatDoor
