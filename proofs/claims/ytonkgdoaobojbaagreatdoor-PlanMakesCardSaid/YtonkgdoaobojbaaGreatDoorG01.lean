/-
  Layer 12, plain: shares of numbers as words, and how these stand to one another. No program in sight.
-/
import Derived.Laws.FloatArith
import Derived.WalkKit
import Derived.WalkSpells
import Derived.WalkLawsBesides
import Derived.Lib.Hide
import Derived.Lib.Bytealg
import Derived.Lib.AppendZeros
import Derived.Lib.AppendZerosOnto
import Derived.Lib.Overlaps
import Derived.Deep.AppendSrc
import Derived.Deep.Draws
import Derived.KernelRfl
import Derived.Lib.MinMaxS
import Derived.Lib.SplitLaws
import Derived.Test.YtonkgdoaobojbaaGreatDoorProg
import Derived.Shelf.Strings.Repeat
import Derived.Lib.Builder
import Derived.Lib.AppendStr

set_option linter.unusedSimpArgs false
set_option linter.unusedVariables false
set_option maxRecDepth 100000
namespace Go.Proofs.YtonkgdoaobojbaaGreatDoor
open Ieee
def rungM (x : Nat) : Nat := if x < 4503599627370496 then x else 4503599627370496 + x % 4503599627370496
def rungE (x : Nat) : Nat := x / 4503599627370496 - 1
theorem read_rung (x : Nat) (h : x < 9218868437227405312) : double.read x = .number false (rungM x) (-1074 + (rungE x : Nat)) := by
 have e1 : double.signWeight = 9223372036854775808 := by decide
 have e2 : double.binade = 4503599627370496 := by decide
 have e3 : double.infRung = 9218868437227405312 := by decide
 have e4 : double.leastPlace = -1074 := by decide
 unfold Format.read
 simp only [e1, e2, e3, e4]
 have h1 : x / 9223372036854775808 = 0 := Nat.div_eq_of_lt (by omega)
 have h2 : x % 9223372036854775808 = x := Nat.mod_eq_of_lt (by omega)
 rw [h1, h2]
 unfold rungM rungE
 by_cases hx : x < 4503599627370496
 ·rw [if_pos hx, if_pos hx, Nat.div_eq_of_lt hx]; rfl
 ·rw [if_neg hx, if_neg hx, if_pos h]; rfl
theorem read_inf : double.read 9218868437227405312 = .infinity false := by decide
theorem rung_lt {x y : Nat} (h : x < y) (hE : rungE x <= rungE y) : rungM x <<< (rungE x - min (rungE x) (rungE y)) < rungM y <<< (rungE y - min (rungE x) (rungE y)) := by
 have hx : rungM x < 9007199254740992 := by unfold rungM; split <;> omega
 rw [Nat.min_eq_left hE, Nat.sub_self, Nat.shiftLeft_zero, Nat.shiftLeft_eq]
 rcases Nat.lt_or_ge (rungE x) (rungE y) with hlt | hge
 ·have hy : 4503599627370496 <= rungM y := by
   have : ¬ y < 4503599627370496 := fun hy => by
    have : rungE y = 0 := by unfold rungE; rw [Nat.div_eq_of_lt hy]
    omega
   unfold rungM
   rw [if_neg this]
   omega
  have hp : 2 <= 2 ^ (rungE y - rungE x) := by
   have := Nat.pow_le_pow_right (n := 2) (by decide) (show 1 <= rungE y - rungE x by omega)
   simpa using this
  have := Nat.mul_le_mul hy hp
  omega
 ·have he : rungE x = rungE y := by omega
  rw [he, Nat.sub_self, Nat.pow_zero, Nat.mul_one]
  unfold rungE at he
  unfold rungM
  split <;> split <;> omega
theorem rungE_mono {x y : Nat} (h : x <= y) : rungE x <= rungE y := by
 unfold rungE
 have := Nat.div_le_div_right (c := 4503599627370496) h
 omega
theorem order_lt {x y : Nat} (h : x < y) (hy : y <= 9218868437227405312) : double.order x y = some .lt := by
 unfold Format.order
 rw [read_rung x (by omega)]
 by_cases hi : y = 9218868437227405312
 ·subst hi; rw [read_inf]; rfl
 rw [read_rung y (by omega)]
 have hE := rungE_mono (Nat.le_of_lt h)
 unfold Datum.order signed
 simp only [Bool.false_eq_true, if_false]
 have hm := rung_lt h hE
 have e1 : (-1074 + (rungE x : Nat) - min (-1074 + ((rungE x : Nat) : Int)) (-1074 + ((rungE y : Nat) : Int))).toNat = rungE x - min (rungE x) (rungE y) := by omega
 have e2 : (-1074 + (rungE y : Nat) - min (-1074 + ((rungE x : Nat) : Int)) (-1074 + ((rungE y : Nat) : Int))).toNat = rungE y - min (rungE x) (rungE y) := by omega
 rw [e1, e2]
 congr 1
 rw [Int.compare_eq_lt]
 omega
theorem order_gt {x y : Nat} (h : y < x) (hx : x <= 9218868437227405312) : double.order x y = some .gt := by
 unfold Format.order
 rw [read_rung y (by omega)]
 by_cases hi : x = 9218868437227405312
 ·subst hi; rw [read_inf]; rfl
 rw [read_rung x (by omega)]
 have hE := rungE_mono (Nat.le_of_lt h)
 unfold Datum.order signed
 simp only [Bool.false_eq_true, if_false]
 have hm := rung_lt h hE
 rw [Nat.min_comm] at hm
 have e1 : (-1074 + (rungE x : Nat) - min (-1074 + ((rungE x : Nat) : Int)) (-1074 + ((rungE y : Nat) : Int))).toNat = rungE x - min (rungE x) (rungE y) := by omega
 have e2 : (-1074 + (rungE y : Nat) - min (-1074 + ((rungE x : Nat) : Int)) (-1074 + ((rungE y : Nat) : Int))).toNat = rungE y - min (rungE x) (rungE y) := by omega
 rw [e1, e2]
 congr 1
 rw [Int.compare_eq_gt]
 omega
theorem order_eq {x : Nat} (hx : x <= 9218868437227405312) : double.order x x = some .eq := by
 unfold Format.order
 by_cases hi : x = 9218868437227405312
 ·subst hi; rw [read_inf]; rfl
 rw [read_rung x (by omega)]
 unfold Datum.order
 simp only
 congr 1
 exact Int.compare_eq_eq.2 rfl
set_option maxHeartbeats 2000000
def rgM (x : Nat) : Nat := if x < 4503599627370496 then x else 4503599627370496 + x % 4503599627370496
def rgE (x : Nat) : Nat := x / 4503599627370496 - 1
theorem read_rg (x : Nat) (h : x < 9218868437227405312) : double.read x = .number false (rgM x) (-1074 + (rgE x : Nat)) := by
 have e1 : double.signWeight = 9223372036854775808 := by decide
 have e2 : double.binade = 4503599627370496 := by decide
 have e3 : double.infRung = 9218868437227405312 := by decide
 have e4 : double.leastPlace = -1074 := by decide
 unfold Format.read
 simp only [e1, e2, e3, e4]
 have h1 : x / 9223372036854775808 = 0 := Nat.div_eq_of_lt (by omega)
 have h2 : x % 9223372036854775808 = x := Nat.mod_eq_of_lt (by omega)
 rw [h1, h2]
 unfold rgM rgE
 by_cases hx : x < 4503599627370496
 ·rw [if_pos hx, if_pos hx, Nat.div_eq_of_lt hx]; rfl
 ·rw [if_neg hx, if_neg hx, if_pos h]; rfl
theorem mul52 (L : Nat) (h : L <= 52) : 2 ^ L * 2 ^ (52 - L) = 4503599627370496 := by rw [<- Nat.pow_add, show L + (52 - L) = 52 by omega]
theorem mul53 (L : Nat) (h : L <= 52) : 2 ^ (L + 1) * 2 ^ (52 - L) = 9007199254740992 := by rw [<- Nat.pow_add, show L + 1 + (52 - L) = 53 by omega]
theorem cut_none (neg : Bool) (n : Nat) : Toward.even.cut neg n 0 = n := by
 unfold Toward.cut
 simp only [Nat.zero_min, Nat.shiftLeft_zero, Nat.div_one, Nat.mod_one]
 rfl
theorem cut_le (neg : Bool) (n d : Nat) : Toward.even.cut neg n d <= n + 1 := by
 unfold Toward.cut
 simp only
 have h1 : n / (1 <<< min d (n.log2 + 2)) <= n := Nat.div_le_self _ _
 have h2 : ∀ b : Bool, b.toNat <= 1 := by decide
 exact Nat.add_le_add h1 (h2 _)
theorem near_eq (n : Nat) (place : Int) (h : n ≠ 0) : double.nearest false n place = double.word false (min ((max (place + (n.log2 : Int) - 52) (-1074) - (-1074)).toNat * 4503599627370496 + Toward.even.cut false (n <<< (place - max (place + (n.log2 : Int) - 52) (-1074)).toNat) (max (place + (n.log2 : Int) - 52) (-1074) - place).toNat) 9218868437227405312) := by
 have e2 : double.binade = 4503599627370496 := by decide
 have e3 : double.infRung = 9218868437227405312 := by decide
 have e4 : double.leastPlace = -1074 := by decide
 have e5 : double.fractionBits = 52 := by decide
 unfold Format.nearest
 rw [if_neg h, e2, e3, e4, e5]
 rfl
theorem word_pos (x : Nat) : double.word false x = x := by
 unfold Format.word
 rw [if_neg (by simp)]
theorem nearest_nat2 (n : Nat) (h1 : 1 <= n) (h2 : n < 4503599627370496) : 4607182418800017408 <= double.nearest false n 0 ∧ double.nearest false n 0 < 4841369599423283200 := by
 rw [near_eq n 0 (by omega), word_pos]
 have hL : n.log2 < 52 := (Nat.log2_lt (by omega)).2 h2
 have h3 : n < 2 ^ (n.log2 + 1) := Nat.lt_log2_self
 have h4 : 2 ^ n.log2 <= n := Nat.log2_self_le (by omega)
 generalize n.log2 = L at *
 rw [show max ((0 : Int) + (L : Int) - 52) (-1074) = (L : Int) - 52 by omega, show ((0 : Int) - ((L : Int) - 52)).toNat = 52 - L by omega, show ((L : Int) - 52 - 0).toNat = 0 by omega, show ((L : Int) - 52 - -1074).toNat = L + 1022 by omega, cut_none, Nat.shiftLeft_eq]
 have g8 := Nat.mul_le_mul_right (2 ^ (52 - L)) h4
 have g9 := Nat.mul_lt_mul_of_pos_right h3 (Nat.two_pow_pos (52 - L))
 rw [mul52 L (by omega)] at g8
 rw [mul53 L (by omega)] at g9
 generalize n * 2 ^ (52 - L) = K at *
 omega
theorem log2_52 {m : Nat} (h1 : 4503599627370496 <= m) (h2 : m < 9007199254740992) : m.log2 = 52 := by
 have a := (Nat.log2_lt (n := m) (k := 53) (by omega)).2 (by rw [show (2 : Nat) ^ 53 = 9007199254740992 by decide]; exact h2)
 have b := (Nat.le_log2 (n := m) (k := 52) (by omega)).2 (by rw [show (2 : Nat) ^ 52 = 4503599627370496 by decide]; exact h1)
 omega
theorem near_fin (M : Nat) (place : Int) (h1 : 9007199254740992 <= M) (h2 : M < 144115188075855872) (h3 : place <= -4) : double.nearest false M place < 9218868437227405312 := by
 rw [near_eq M place (by omega), word_pos]
 have hL1 := (Nat.le_log2 (n := M) (k := 53) (by omega)).2 (by rw [show (2 : Nat) ^ 53 = 9007199254740992 by decide]; exact h1)
 have hL2 := (Nat.log2_lt (n := M) (k := 57) (by omega)).2 (by rw [show (2 : Nat) ^ 57 = 144115188075855872 by decide]; exact h2)
 generalize M.log2 = L at *
 have hs : (place - max (place + (L : Int) - 52) (-1074)).toNat = 0 ∨ (place - max (place + (L : Int) - 52) (-1074)).toNat = 0 := .inl (by omega)
 have hs0 : (place - max (place + (L : Int) - 52) (-1074)).toNat = 0 := by omega
 rw [hs0, Nat.shiftLeft_zero]
 have hc := cut_le false M (max (place + (L : Int) - 52) (-1074) - place).toNat
 have hp : (max (place + (L : Int) - 52) (-1074) - (-1074)).toNat <= 1074 := by omega
 generalize Toward.even.cut false M (max (place + (L : Int) - 52) (-1074) - place).toNat = K at *
 generalize (max (place + (L : Int) - 52) (-1074) - (-1074)).toNat = Z at *
 omega
theorem share_fin (a b : Nat) (ha1 : 1 <= a) (ha2 : a < 4503599627370496) (hb1 : 1 <= b) (hb2 : b < 4503599627370496) :
 ∃ r, floatBits .quo .f64 (double.nearest false a 0) (double.nearest false b 0) = some r ∧ r < 9218868437227405312 := by
 obtain ⟨p1, p2⟩ := nearest_nat2 a ha1 ha2
 obtain ⟨q1, q2⟩ := nearest_nat2 b hb1 hb2
 show ∃ r, double.div _ _ = some r ∧ _
 generalize double.nearest false a 0 = x at *
 generalize double.nearest false b 0 = y at *
 have hx : rgM x = 4503599627370496 + x % 4503599627370496 := by unfold rgM; rw [if_neg (by omega)]
 have hy : rgM y = 4503599627370496 + y % 4503599627370496 := by unfold rgM; rw [if_neg (by omega)]
 have ex : rgE x <= 1073 ∧ 1022 <= rgE x := by unfold rgE; omega
 have ey : rgE y <= 1073 ∧ 1022 <= rgE y := by unfold rgE; omega
 unfold Format.div
 rw [read_rg x (by omega), read_rg y (by omega)]
 have m1 : 4503599627370496 <= rgM x ∧ rgM x < 9007199254740992 := by omega
 have n1 : 4503599627370496 <= rgM y ∧ rgM y < 9007199254740992 := by omega
 generalize rgM x = m at *
 generalize rgM y = n at *
 generalize rgE x = i at *
 generalize rgE y = j at *
 clear hx hy p1 p2 q1 q2
 have e5 : double.fractionBits = 52 := by decide
 unfold Datum.quotient
 simp only
 rw [if_neg (show n ≠ 0 by omega), log2_52 m1.1 m1.2, log2_52 n1.1 n1.2, e5]
 refine ⟨_, rfl, ?_⟩
 show double.nearest _ _ _ < _
 have hd1 : m <<< (52 + 2 + 52 - 52) / n <= 4 * m := by
  rw [Nat.shiftLeft_eq]
  refine Nat.div_le_of_le_mul ?_
  have := Nat.mul_le_mul_right (4 * m) n1.1
  have e : m * 2 ^ (52 + 2 + 52 - 52) = 4503599627370496 * (4 * m) := by
   rw [show (2 : Nat) ^ (52 + 2 + 52 - 52) = 4503599627370496 * 4 by decide]
   rw [<- Nat.mul_assoc, Nat.mul_comm m, Nat.mul_assoc, Nat.mul_comm m 4]
  rw [e]
  exact this
 have hd2 : 4503599627370496 <= m <<< (52 + 2 + 52 - 52) / n := by
  rw [Nat.shiftLeft_eq, Nat.le_div_iff_mul_le (by omega), show (2 : Nat) ^ (52 + 2 + 52 - 52) = 18014398509481984 by decide]
  have h1 : 4503599627370496 * n <= 4503599627370496 * 9007199254740992 := Nat.mul_le_mul_left _ (by omega)
  have h2 : 4503599627370496 * 18014398509481984 <= m * 18014398509481984 := Nat.mul_le_mul_right _ m1.1
  exact Nat.le_trans (Nat.le_trans h1 (Nat.mul_le_mul_left _ (by decide))) h2
 have hb : ∀ c : Bool, c.toNat <= 1 := by decide
 have hb0 := hb (m <<< (52 + 2 + 52 - 52) % n != 0)
 generalize (m <<< (52 + 2 + 52 - 52) % n != 0).toNat = bt at *
 generalize m <<< (52 + 2 + 52 - 52) / n = D at *
 exact near_fin _ _ (by omega) (by omega) (by omega)
end Go.Proofs.YtonkgdoaobojbaaGreatDoor
namespace Go.Proofs.YtonkgdoaobojbaaGreatDoor
open Go.RowKit
def NoB : Nat -> Prop := fun _ => False
structure Keeps (F : Nat -> Prop) (w w' : World) : Prop where
 os : w'.os = w.os
 tape : w'.tape = w.tape
 output : w'.output = w.output
 size : w.heap.size <= w'.heap.size
 block : ∀ k, k < w.heap.size -> ¬ F k -> w'.heap[k]? = w.heap[k]?
theorem Keeps.refl (F : Nat -> Prop) (w : World) : Keeps F w w := ⟨rfl, rfl, rfl, Nat.le_refl _, fun _ _ _ => rfl⟩
theorem Keeps.trans' {F G H : Nat -> Prop} {a b c : World} (h : Keeps F a b) (k : Keeps G b c) (hF : ∀ g, g < a.heap.size -> F g -> H g) (hG : ∀ g, g < a.heap.size -> G g -> H g) : Keeps H a c :=
 ⟨k.os.trans h.os, k.tape.trans h.tape, k.output.trans h.output, Nat.le_trans h.size k.size,
  fun i hi hn => (k.block i (Nat.lt_of_lt_of_le hi h.size) (fun hg => hn (hG i hi hg))).trans (h.block i hi (fun hf => hn (hF i hi hf)))⟩
theorem Keeps.trans {F : Nat -> Prop} {a b c : World} (h : Keeps F a b) (k : Keeps F b c) : Keeps F a c := h.trans' k (fun _ _ h => h) (fun _ _ h => h)
theorem Keeps.step {F G : Nat -> Prop} {a b c : World} (h : Keeps F a b) (k : Keeps G b c) (hG : ∀ g, G g -> F g ∨ a.heap.size <= g) : Keeps F a c :=
 h.trans' k (fun _ _ h => h) (fun g hg h => (hG g h).elim id (fun h => absurd hg (by omega)))
theorem Keeps.mono {F G : Nat -> Prop} {a b : World} (h : Keeps F a b) (hFG : ∀ g, g < a.heap.size -> F g -> G g) : Keeps G a b :=
 ⟨h.os, h.tape, h.output, h.size, fun i hi hn => h.block i hi (fun hf => hn (hFG i hi hf))⟩
theorem Keeps.of_none {F : Nat -> Prop} {a b : World} (h : Keeps NoB a b) : Keeps F a b := h.mono (fun _ _ h => h.elim)
theorem Keeps.alloc {F : Nat -> Prop} {a w : World} (h : Keeps F a w) (o : Obj) : Keeps F a (w.alloc o) :=
 h.trans ⟨rfl, rfl, rfl, by simp, fun k hk _ => Below.heap_alloc _ _ _ hk⟩
theorem Keeps.drew {F : Nat -> Prop} {a w : World} (h : Keeps F a w) : Keeps F a w.drew := ⟨h.os, h.tape, h.output, h.size, h.block⟩
theorem Keeps.drewN {F : Nat -> Prop} {a w : World} (h : Keeps F a w) (n : Nat) : Keeps F a (w.drewN n) := ⟨h.os, h.tape, h.output, h.size, h.block⟩
theorem Keeps.setCell {F : Nat -> Prop} {a w : World} (h : Keeps F a w) {p : Addr} (hp : F p.block ∨ a.heap.size <= p.block) (u : Value) : Keeps F a (w.setCell p u) :=
 ⟨h.os, h.tape, h.output, by have := h.size; simpa [World.setCell] using this, fun k hk hn => by
   rw [Below.heap_setCell _ _ _ _ (by rcases hp with hp | hp; · intro e; subst e; exact hn hp
                                      ·omega)]; exact h.block k hk hn⟩
theorem Keeps.below {F : Nat -> Prop} {B : Nat} {w w' : World} (h : Keeps F w w') (hB : B <= w.heap.size) (hF : ∀ g, g < B -> ¬ F g) : Below B w w' :=
 ⟨h.os, h.tape, h.output, h.size, fun k hk => h.block k (by omega) (hF k hk)⟩
theorem Keeps.cell {F : Nat -> Prop} {w w' : World} (h : Keeps F w w') {p : Addr} (hp : p.block < w.heap.size) (hF : ¬ F p.block) : w'.cell? p = w.cell? p :=
 World.cell?_of_block (w := w) (h.block p.block hp hF)
theorem Keeps.frozen {F : Nat -> Prop} {w w' : World} (h : Keeps F w w') {p : Addr} (hp : p.block < w.heap.size) (hF : ¬ F p.block) : w'.frozen? p = w.frozen? p :=
 World.frozen?_of_block (w := w) (h.block p.block hp hF)
theorem lt_of_cell {w : World} {a : Addr} {v : Value} (h : w.cell? a = some v) : a.block < w.heap.size := block_lt_of_cell h
theorem lt_of_block {w : World} {g : Nat} {o : Obj} (h : w.heap[g]? = some o) : g < w.heap.size := (Array.getElem?_eq_some_iff.1 h).1
theorem add_lit (g off j : Nat) : (⟨g, off, none⟩ : Addr).add j = ⟨g, off + j, none⟩ := by unfold Addr.add; split <;> simp_all
structure Enc (α : Type) where
 enc : α -> List Value
 k : Nat
 pos : 0 < k
 len : ∀ x, (enc x).length = k
 one : ∀ x, ∀ v ∈ enc x, v.oneCell' = true
section
variable {α : Type} (E : Enc α)
theorem Enc.flat_len (l : List α) : (l.flatMap E.enc).length = l.length * E.k := by
 induction l with
 | nil => simp
 | cons a l ih => simp [ih, E.len, Nat.add_mul]; omega
theorem Enc.flat_one (l : List α) : ∀ v ∈ l.flatMap E.enc, v.oneCell' = true := by
 intro v hv
 obtain ⟨x, _, hx⟩ := List.mem_flatMap.1 hv
 exact E.one x v hx
theorem Enc.flat_get (l : List α) (i j : Nat) (hj : j < E.k) : (l.flatMap E.enc)[i * E.k + j]? = (l[i]?).bind fun x => (E.enc x)[j]? := by
 induction l generalizing i with
 | nil => simp
 | cons a l ih =>
   rw [List.flatMap_cons]
   cases i with
   | zero => simp only [Nat.zero_mul, Nat.zero_add]; rw [List.getElem?_append_left (by rw [E.len]; exact hj)]; rfl
   | succ i =>
     rw [List.getElem?_append_right (by rw [E.len, Nat.add_mul]; omega), E.len]
     rw [show (i + 1) * E.k + j - E.k = i * E.k + j by rw [Nat.add_mul]; omega, ih]
     rfl
theorem Enc.flat_take (l : List α) (n : Nat) : (l.take n).flatMap E.enc = (l.flatMap E.enc).take (n * E.k) := by
 induction l generalizing n with
 | nil => simp
 | cons a l ih =>
   cases n with
   | zero => simp
   | succ n =>
     rw [List.take_succ_cons, List.flatMap_cons, List.flatMap_cons, ih, List.take_append, E.len]
     rw [List.take_of_length_le (l := E.enc a) (by rw [E.len, Nat.add_mul]; omega), show (n + 1) * E.k - E.k = n * E.k by rw [Nat.add_mul]; omega]
structure SlAt (S : Nat -> Prop) (w : World) (p : Option Addr) (c : Nat) (l : List α) : Prop where
 cap : l.length <= c
 max : c <= maxLen
 nilc : p = none -> c = 0
 spot : 0 < c -> ∀ a, p = some a -> a.spot = none
 cells : 0 < l.length -> ∃ g off, p = some ⟨g, off, none⟩ ∧ S g ∧ g < w.heap.size ∧ ∀ j, j < l.length * E.k -> w.cell? ⟨g, off + j, none⟩ = (l.flatMap E.enc)[j]?
def Sl (S : Nat -> Prop) (w : World) (v : Value) (l : List α) : Prop := ∃ p c, v = .slice p l.length c ∧ SlAt E S w p c l
variable {E} {S : Nat -> Prop} {w : World} {p : Option Addr} {c : Nat} {l : List α} {v : Value}
theorem Sl.nil (E : Enc α) (S : Nat -> Prop) (w : World) : Sl E S w (.slice none 0 0) [] :=
 ⟨none, 0, rfl, by simp, by simp, fun _ => rfl, (fun h => by omega), (fun h => by simp at h)⟩
theorem SlAt.keep {F : Nat -> Prop} {w' : World} (h : SlAt E S w p c l) (k : Keeps F w w') (hF : ∀ g, S g -> g < w.heap.size -> ¬ F g) : SlAt E S w' p c l :=
 ⟨h.cap, h.max, h.nilc, h.spot, fun h0 => by
   obtain ⟨g, off, rfl, hS, hg, hc⟩ := h.cells h0
   exact ⟨g, off, rfl, hS, Nat.lt_of_lt_of_le hg k.size, fun j hj => (k.cell hg (hF g hS hg)).trans (hc j hj)⟩⟩
theorem Sl.keep {F : Nat -> Prop} {w' : World} (h : Sl E S w v l) (k : Keeps F w w') (hF : ∀ g, S g -> g < w.heap.size -> ¬ F g) : Sl E S w' v l := by
 obtain ⟨p, c, rfl, h⟩ := h
 exact ⟨p, c, rfl, h.keep k hF⟩
theorem Sl.of (h : SlAt E S w p c l) : Sl E S w (.slice p l.length c) l := ⟨p, c, rfl, h⟩
theorem Sl.keepN {w' : World} (h : Sl E S w v l) (k : Keeps NoB w w') : Sl E S w' v l := h.keep k (fun _ _ _ h => h)
theorem SlAt.keepN {w' : World} (h : SlAt E S w p c l) (k : Keeps NoB w w') : SlAt E S w' p c l := h.keep k (fun _ _ _ h => h)
theorem Sl.mono {S' : Nat -> Prop} (h : Sl E S w v l) (hS : ∀ g, S g -> g < w.heap.size -> S' g) : Sl E S' w v l := by
 obtain ⟨p, c, rfl, h⟩ := h
 refine ⟨p, c, rfl, h.cap, h.max, h.nilc, h.spot, fun h0 => ?_⟩
 obtain ⟨g, off, rfl, hSg, hg, hc⟩ := h.cells h0
 exact ⟨g, off, rfl, hS g hSg hg, hg, hc⟩
theorem SlAt.at (h : SlAt E S w p c l) {i : Nat} {x : α} (hi : l[i]? = some x) :
 ∃ g off, p = some ⟨g, off, none⟩ ∧ S g ∧ g < w.heap.size ∧ ∀ j u, (E.enc x)[j]? = some u -> w.cell? ⟨g, off + (i * E.k + j), none⟩ = some u := by
 obtain ⟨hil, hix⟩ := List.getElem?_eq_some_iff.1 hi
 obtain ⟨g, off, hp, hS, hg, hc⟩ := h.cells (by omega)
 refine ⟨g, off, hp, hS, hg, fun j u hu => ?_⟩
 have hj : j < E.k := by have := (List.getElem?_eq_some_iff.1 hu).1; rw [E.len] at this; exact this
 have hlt : i * E.k + j < l.length * E.k := by
  have : (i + 1) * E.k <= l.length * E.k := Nat.mul_le_mul_right _ hil
  rw [Nat.add_mul] at this; omega
 rw [hc _ hlt, E.flat_get l i j hj, hi]
 exact hu
def Own (E : Enc α) (e : TypeId) (S : Nat -> Prop) (w : World) (v : Value) (l : List α) : Prop :=
 w.ownsRow 0 e E.k v l.length (l.flatMap E.enc) ∧ ∀ g, v.ownBlock = some g -> S g
theorem Own.nil (E : Enc α) (e : TypeId) (S : Nat -> Prop) (w : World) : Own E e S w (.slice none 0 0) [] :=
 ⟨by simpa using World.ownsRow_nil w 0 e E.k, fun g h => by simp [Value.ownBlock] at h⟩
variable {e : TypeId}
theorem Own.lt (h : Own E e S w v l) : ∀ g, v.ownBlock = some g -> g < w.heap.size := fun g hg => (h.1.lt g hg).2
theorem Own.keep {F : Nat -> Prop} {w' : World} (h : Own E e S w v l) (k : Keeps F w w') (hF : ∀ g, v.ownBlock = some g -> ¬ F g) : Own E e S w' v l := by
 refine ⟨⟨h.1.1, ?_⟩, h.2⟩
 rcases h.1.2 with hn | ⟨g, cap, cur, hv, hg, hh, r⟩
 ·exact .inl hn
 ·subst hv
  exact .inr ⟨g, cap, cur, rfl, hg, (k.block g (lt_of_block hh) (hF g rfl)).trans hh, r⟩
theorem Own.mono {S' : Nat -> Prop} (h : Own E e S w v l) (hS : ∀ g, v.ownBlock = some g -> S g -> S' g) : Own E e S' w v l :=
 ⟨h.1, fun g hg => hS g hg (h.2 g hg)⟩
theorem Own.sl (h : Own E e S w v l) : Sl E S w v l := by
 rcases h.1.2 with ⟨rfl, hn⟩ | ⟨g, cap, cur, rfl, _, hg, hcap, hmax, hsz, htk⟩
 ·have : l = [] := List.eq_nil_of_length_eq_zero hn
  subst this
  exact Sl.nil E S w
 ·refine ⟨_, cap, rfl, hcap, hmax, (fun h => by cases h), (fun _ a ha => by cases ha; rfl), fun _ => ⟨g, 0, rfl, h.2 g rfl, lt_of_block hg, fun j hj => ?_⟩⟩
  rw [cell_of_row w g _ cur e (0, 0) hg, <- htk, List.getElem?_take, if_pos hj, Nat.zero_add]
  simp
theorem Own.cases (h : Own E e S w v l) : (v = .slice none 0 0 ∧ l = []) ∨
 ∃ g cap cur, v = .slice (some ⟨g, 0, none⟩) l.length cap ∧ S g ∧ w.heap[g]? = some (.cells cur e (0, 0)) ∧ l.length <= cap ∧ cap <= maxLen ∧ cur.size = cap * E.k ∧ cur.toList.take (l.length * E.k) = l.flatMap E.enc := by
 rcases h.1.2 with ⟨rfl, hn⟩ | ⟨g, cap, cur, rfl, _, hg, hcap, hmax, hsz, htk⟩
 ·exact .inl ⟨rfl, List.eq_nil_of_length_eq_zero hn⟩
 ·exact .inr ⟨g, cap, cur, rfl, h.2 g rfl, hg, hcap, hmax, hsz, htk⟩
theorem Own.row (h : Own E e S w v l) (h0 : 0 < l.length) :
 ∃ g cap cur, v = .slice (some ⟨g, 0, none⟩) l.length cap ∧ S g ∧ w.heap[g]? = some (.cells cur e (0, 0)) ∧ l.length <= cap ∧ cap <= maxLen ∧ cur.size = cap * E.k ∧ cur.toList.take (l.length * E.k) = l.flatMap E.enc := by
 rcases h.cases with ⟨_, rfl⟩ | h
 ·simp at h0
 ·exact h
theorem Own.at (h : Own E e S w (.slice p l.length c) l) : SlAt E S w p c l := by
 obtain ⟨p', c', hpc, hs⟩ := h.sl
 cases hpc
 exact hs
theorem Own.mk {g cap : Nat} {cur : Array Value} (hS : S g) (hg : w.heap[g]? = some (.cells cur e (0, 0))) (hcap : l.length <= cap) (hmax : cap <= maxLen) (hsz : cur.size = cap * E.k)
 (htk : cur.toList.take (l.length * E.k) = l.flatMap E.enc) : Own E e S w (.slice (some ⟨g, 0, none⟩) l.length cap) l :=
 ⟨⟨E.flat_len l, .inr ⟨g, cap, cur, rfl, Nat.zero_le _, hg, hcap, hmax, hsz, htk⟩⟩, fun g' h => by simp [Value.ownBlock] at h; subst h; exact hS⟩
end
def encStr : Enc ByteArray where
 enc := fun s => [.string s]
 k := 1
 pos := by decide
 len := fun _ => rfl
 one := fun x v hv => by simp at hv; subst hv; rfl
def encInt : Enc Int where
 enc := fun n => [.int .i64 n]
 k := 1
 pos := by decide
 len := fun _ => rfl
 one := fun x v hv => by simp at hv; subst hv; rfl
theorem SlAt.str {S : Nat -> Prop} {w : World} {p : Option Addr} {c : Nat} {l : List ByteArray} (h : SlAt encStr S w p c l) {i : Nat} {x : ByteArray} (hi : l[i]? = some x) :
 ∃ g off, p = some ⟨g, off, none⟩ ∧ S g ∧ g < w.heap.size ∧ w.cell? ⟨g, off + i, none⟩ = some (.string x) := by
 obtain ⟨g, off, hp, hS, hg, hc⟩ := h.at hi
 refine ⟨g, off, hp, hS, hg, ?_⟩
 have := hc 0 _ rfl
 rwa [Nat.add_zero, show encStr.k = 1 from rfl, Nat.mul_one] at this
theorem SlAt.num {S : Nat -> Prop} {w : World} {p : Option Addr} {c : Nat} {l : List Int} (h : SlAt encInt S w p c l) {i : Nat} {x : Int} (hi : l[i]? = some x) :
 ∃ g off, p = some ⟨g, off, none⟩ ∧ S g ∧ g < w.heap.size ∧ w.cell? ⟨g, off + i, none⟩ = some (.int .i64 x) := by
 obtain ⟨g, off, hp, hS, hg, hc⟩ := h.at hi
 refine ⟨g, off, hp, hS, hg, ?_⟩
 have := hc 0 _ rfl
 rwa [Nat.add_zero, show encInt.k = 1 from rfl, Nat.mul_one] at this
structure ElemT {α : Type} (P : Program) (E : Enc α) (t e : TypeId) (z : α) (bytes : Nat) : Prop where
 under : P.underlying t = some (.slice e)
 info : ∃ i : TypeInfo, P.info? e = some i ∧ i.size = E.k ∧ i.bytes = bytes ∧ ∃ zv, i.zero = some zv ∧ zv.cells.toList = E.enc z
section
variable {α : Type} {E : Enc α} {P : Program} {t e : TypeId} {z : α} {bytes : Nat} {S : Nat -> Prop} {w : World}
theorem zeroCells_flat (zc : Array Value) (n : Nat) (hz : zc.toList = E.enc z) : (Builtin.zeroCells zc n).toList = (List.replicate n z).flatMap E.enc := by
 have hs : zc.size = E.k := by rw [<- Array.length_toList, hz, E.len]
 apply List.ext_getElem?
 intro j
 have hk := E.pos
 by_cases hj : j < n * E.k
 ·have hd := Nat.div_add_mod j E.k
  have hm := Nat.mod_lt j hk
  have hq : j / E.k < n := Nat.div_lt_of_lt_mul (by rw [Nat.mul_comm]; exact hj)
  have e1 : (List.replicate n z).flatMap E.enc = (List.replicate n z).flatMap E.enc := rfl
  rw [show j = (j / E.k) * E.k + j % E.k by rw [Nat.mul_comm]; omega, E.flat_get _ _ _ hm]
  simp only [List.getElem?_replicate, hq, if_true, Option.bind_some]
  simp only [Builtin.zeroCells, Array.toList_map, Array.toList_range, List.getElem?_map, hs]
  rw [List.getElem?_range (by rw [Nat.mul_comm]; omega)]
  simp only [Option.map_some]
  have hmm : (j / E.k * E.k + j % E.k) % E.k = j % E.k := by rw [Nat.mul_comm, Nat.mul_add_mod]; exact Nat.mod_eq_of_lt hm
  rw [hmm, <- hz, Array.getElem?_toList, getElem!_pos zc _ (by rw [hs]; exact hm), Array.getElem?_eq_getElem (by rw [hs]; exact hm)]
 ·rw [List.getElem?_eq_none (by simp [Builtin.zeroCells, hs]; omega), List.getElem?_eq_none (by rw [E.flat_len]; simp; omega)]
theorem own_fresh (l spare : List α) (hS : S w.heap.size) (hmax : l.length + spare.length <= maxLen) (cs : Array Value) (hcs : cs.toList = (l ++ spare).flatMap E.enc) :
 Own E e S (w.alloc (.cells cs e)) (.slice (some ⟨w.heap.size, 0, none⟩) l.length (l.length + spare.length)) l := by
 refine Own.mk (cur := cs) hS (heap_alloc_new w _) (by omega) hmax ?_ ?_
 ·rw [<- Array.length_toList, hcs, E.flat_len]; simp
 ·rw [hcs, <- E.flat_take]; simp
theorem own_lit (l : List α) (cs : Array Value) (hcs : cs.toList = l.flatMap E.enc) (n : Nat) (hn : n = l.length) (hS : S w.heap.size) (hm : n <= maxLen) :
 Own E e S (w.alloc (.cells cs e)) (.slice (some ⟨w.heap.size, 0, none⟩) n n) l := by
 subst hn
 have := own_fresh (E := E) (e := e) (S := S) (w := w) l [] hS (by simpa using hm) cs (by simpa using hcs)
 simpa using this
theorem run_append (T : ElemT P E t e z bytes) (ty : TypeId) {v x : Value} {l m : List α} {S2 : Nat -> Prop} (ho : Own E e S w v l) (hx : Sl E S2 w x m)
 (hS : S w.heap.size) (h63 : l.length + m.length <= maxLen) (hb : (l.length + m.length) * bytes <= 140737488355328) :
 ∃ v' w', (Builtin.append_ #[t, t] ty #[v, x]).run P w = .ok v' w' ∧ Own E e S w' v' (l ++ m) ∧ Keeps (fun g => v.ownBlock = some g) w w' ∧
   (∀ g, v'.ownBlock = some g -> v.ownBlock = some g ∨ w.heap.size <= g) := by
 obtain ⟨i, hi, hik, hib, zv, hz, hzc⟩ := T.info
 obtain ⟨p, c, rfl, hm⟩ := hx
 have h63' : ((l.length + m.length : Nat) : Int) <= 9223372036854775807 := by simp only [maxLen] at h63; omega
 have hKr : ∀ cs : Array Value, Keeps (fun g => v.ownBlock = some g) w (w.drew.alloc (.cells cs e)) := fun cs => ((Keeps.refl _ w).drew).alloc _
 -- the source's cells, at once and behind a draw
 have hsrc : ∀ w', (∀ a, w'.cell? a = w.cell? a) -> (Builtin.firstCells i.size m.length (.slice p m.length c)).run P w' = .ok (m.flatMap E.enc).toArray w' := by
  intro w' hw
  by_cases h0 : m.length = 0
  ·have : m = [] := List.eq_nil_of_length_eq_zero h0
   subst this
   cases p with
   | none => exact run_firstCells_none _ _ _ _ _
   | some a => exact run_firstCells_some w' i.size 0 a 0 c [] (by simp) (fun j v h => by simp at h)
  ·obtain ⟨g, off, rfl, _, hg, hc⟩ := hm.cells (by omega)
   refine run_firstCells_some w' i.size m.length _ _ _ _ (by rw [E.flat_len, hik]) (fun j u hu => ?_)
   rw [add_lit, hw, hc j (by have := (List.getElem?_eq_some_iff.1 hu).1; rw [E.flat_len] at this; exact this)]
   exact hu
 have hSrc : Src P i.size t (.slice p m.length c) m.length (m.flatMap E.enc) w :=
  ⟨.inl ⟨e, T.under⟩, fun _ => rfl, hsrc w (fun _ => rfl), hsrc w.drew (fun _ => rfl), by rw [E.flat_len, hik], E.flat_one m⟩
 have hgrow : ∀ base sLen sCap, l.length = sLen -> sCap < sLen + m.length ->
  (Builtin.firstCells i.size sLen (.slice base sLen sCap)).run P w.drew = .ok (l.flatMap E.enc).toArray w.drew ->
  ∃ v' w', (Builtin.append_ #[t, t] ty #[.slice base sLen sCap, .slice p m.length c]).run P w = .ok v' w' ∧ Own E e S w' v' (l ++ m) ∧ Keeps (fun g => v.ownBlock = some g) w w' ∧
    (∀ g, v'.ownBlock = some g -> v.ownBlock = some g ∨ w.heap.size <= g) := by
  intro base sLen sCap hl hlt hold
  subst hl
  have hr := run_append_grow_src (P := P) w t t ty e i zv T.under hi hz base l.length sCap (l.flatMap E.enc) hold _ m.length _ hSrc hlt h63' (growslice_fits hlt (by rw [hib]; exact hb))
  have hge := grownCap_ge w (l.length + m.length) sCap e
  have hle := grownCap_le_maxLen w (l.length + m.length) sCap e h63
  refine ⟨_, _, hr, ?_, hKr _, fun g hg => by simp [Value.ownBlock] at hg; right; omega⟩
  have hfr := own_fresh (E := E) (e := e) (S := S) (w := w.drew) (l ++ m) (List.replicate (grownCap w (l.length + m.length) sCap e - (l.length + m.length)) z) hS
   (by simp; omega) ((l.flatMap E.enc ++ m.flatMap E.enc).toArray ++ Builtin.zeroCells zv.cells (grownCap w (l.length + m.length) sCap e - (l.length + m.length)))
   (by simp [zeroCells_flat (E := E) zv.cells _ hzc])
  rw [show (l ++ m).length + (List.replicate (grownCap w (l.length + m.length) sCap e - (l.length + m.length)) z).length = grownCap w (l.length + m.length) sCap e by simp; omega] at hfr
  rw [show (l ++ m).length = l.length + m.length by simp] at hfr
  exact hfr
 rcases ho.cases with ⟨rfl, rfl⟩ | ⟨g, cap, cur, rfl, hSg, hg, hcap, hmax, hsz, htk⟩
 ·by_cases h0 : m.length = 0
  ·have : m = [] := List.eq_nil_of_length_eq_zero h0
   subst this
   refine ⟨.slice none 0 0, w, ?_, Own.nil E e S w, Keeps.refl _ w, fun g hg => .inl hg⟩
   have := hsrc w (fun _ => rfl)
   simp only [List.length_nil] at this ⊢
   simp [Builtin.append_, run_underlying T.under, sizeOf, typeInfo, hi, Builtin.lenOf, this]
  ·exact hgrow none 0 0 rfl (by simp; omega) (run_firstCells_none _ _ _ _ _)
 ·by_cases hroom : l.length + m.length <= cap
  ·have hr := run_append_room_src (P := P) w t t ty e i T.under hi g 0 l.length cap _ m.length (m.flatMap E.enc) hSrc hroom
    (fun j hj => by
      rw [E.flat_len] at hj
      have : (l.length + m.length) * E.k <= cap * E.k := Nat.mul_le_mul_right _ hroom
      rw [Nat.add_mul] at this
      rw [cell_of_row w g _ cur e (0, 0) hg, Array.getElem?_eq_getElem (by rw [hik, hsz]; omega)]; rfl)
    (fun j _ => frozen_of_row w g _ cur e hg)
   have hfit : l.length * E.k + (m.flatMap E.enc).length <= cur.size := by
    have : (l.length + m.length) * E.k <= cap * E.k := Nat.mul_le_mul_right _ hroom
    rw [Nat.add_mul] at this; rw [E.flat_len, hsz]; omega
   have hst1 := run_storeCells_at P g (l.length * E.k) e (m.flatMap E.enc) 0 cur w hg (by simpa using hfit) (E.flat_one m)
   have hst2 := run_storeCells_cells (P := P) g (l.length * E.k) (m.flatMap E.enc) 0 w
    (fun j hj => by rw [cell_of_row w g _ cur e (0, 0) hg, Array.getElem?_eq_getElem (by omega)]; rfl) (fun j _ => frozen_of_row w g _ cur e hg) (E.flat_one m)
   have hw : w.setCells g (0 + l.length * i.size) (m.flatMap E.enc) = w.setRow g (cur.toList.take (l.length * E.k) ++ m.flatMap E.enc ++ cur.toList.drop (l.length * E.k + (m.flatMap E.enc).length)).toArray := by
    rw [hik, Nat.zero_add]
    rw [hst2] at hst1
    simp only [Nat.add_zero] at hst1
    injection hst1
   rw [hw] at hr
   refine ⟨_, _, hr, ?_, ⟨rfl, rfl, rfl, by simp, fun k _ hk => setRow_other w g k _ (fun e => hk (by simp [Value.ownBlock, e]))⟩, fun g' hg' => .inl hg'⟩
   rw [show l.length + m.length = (l ++ m).length by simp]
   refine Own.mk hSg (setRow_heap w g cur _ e _ hg) (by simpa using hroom) hmax ?_ ?_
   ·have hL : cur.toList.length = cap * E.k := by rw [Array.length_toList]; exact hsz
    rw [List.size_toArray, List.length_append, List.length_append, List.length_take, List.length_drop]; omega
   ·rw [htk, <- E.flat_len, List.flatMap_append]
    simp only [List.append_assoc]
    rw [<- List.append_assoc]
    exact List.take_left
  ·refine hgrow _ _ _ rfl (by omega) (run_firstCells_some w.drew i.size l.length ⟨g, 0, none⟩ l.length cap _ (by rw [E.flat_len, hik]) (fun j u hu => ?_))
   rw [add_lit, World.cell?_drew, cell_of_row w g _ cur e (0, 0) hg, Nat.zero_add, <- hu, <- htk, List.getElem?_take, if_pos (by have := (List.getElem?_eq_some_iff.1 hu).1; rw [E.flat_len] at this; exact this)]
   simp
end
theorem Keeps.setRow {F : Nat -> Prop} {a w : World} (h : Keeps F a w) {g : Nat} (hg : F g ∨ a.heap.size <= g) (cs : Array Value) : Keeps F a (w.setRow g cs) :=
 ⟨h.os, h.tape, h.output, by have := h.size; simpa using this, fun k hk hn => by
   rw [setRow_other w g k cs (by rcases hg with hg | hg; · intro e; subst e; exact hn hg
                                 ·omega)]; exact h.block k hk hn⟩
theorem run_slice_h {P : Program} (t e : TypeId) (ht : P.underlying t = some (.slice e)) (hz : ((P.info? e).map (·.size)).isSome = true) (g off n c k : Nat) (h1 : k <= c) (w : World) (hc : c <= 9223372036854775807) :
 (Instr.slice t (.slice (some ⟨g, off, none⟩) n c) none (some (.int .i64 k)) none).run P w = .ok (.slice (some ⟨g, off, none⟩) k c) w := by
 cases hi : P.info? e with
 | none => rw [hi] at hz; cases hz
 | some inf => simp [Instr.slice, Instr.sliceBounds, Instr.sliceBound, asIntOf, run_underlying ht, sizeOf, typeInfo, hi, h1, add_lit]
theorem wp_scope_goto {P : Program} {a : Act} {w : World} {Q : Exit -> Act -> World -> Prop} {c r : Code} (l : Nat) (J : Act -> World -> Prop) (μ : Act -> World -> Nat) (hf : findLabel c l = some (Code.skip.seq r))
 (first : (∀ a w, J a w -> r.wp P (Exit.jump l J Q) a w) -> c.wp P (Exit.jump l J Q) a w)
 (pass : ∀ a w, J a w -> r.wp P (Exit.jump l (fun a' w' => J a' w' ∧ μ a' w' < μ a w) Q) a w) : (Code.scope c).wp P Q a w := by
 refine wp_scope_jumps l J μ hf (first fun a w hJ => ?_) (fun a w hJ => wp_seq (wp_skip ?_))
 ·show r.wp P (Exit.jump l J Q) a w
  refine wp_mono (pass a w hJ) fun e a w h => ?_
  cases e <;> first | exact h | exact ⟨h.1, h.2.1⟩
 ·exact pass a w hJ
theorem wpl_append {α : Type} {E : Enc α} {P : Program} {t e : TypeId} {z : α} {bytes : Nat} {S : Nat -> Prop} {w : World} {ops : Array Oper} {Q : Exit -> Act -> World -> Prop} {rest : List Oper} {o : Oper} {a : Act}
 (hgd : o.guard = none) (s x : Operand) (ho : o.op = .call { callee := .builtin .append, args := #[s, x], argTypes := #[t, t] }) (T : ElemT P E t e z bytes)
 {v xv : Value} {l m : List α} {S2 : Nat -> Prop} (hown : Own E e S w v l) (hsl : Sl E S2 w xv m) (hs : a.eval s = v) (hx : a.eval x = xv) (hS : S w.heap.size)
 (h63 : l.length + m.length <= maxLen) (hb : (l.length + m.length) * bytes <= 140737488355328)
 (h : ∀ v' w', Own E e S w' v' (l ++ m) -> Keeps (fun g => v.ownBlock = some g) w w' -> (∀ g, v'.ownBlock = some g -> v.ownBlock = some g ∨ w.heap.size <= g) -> wpList P ops Q rest (a.put o.dst v') w') :
 wpList P ops Q (o :: rest) a w := by
 obtain ⟨v', w', hr, h1, h2, h3⟩ := run_append T o.type hown hsl hS h63 hb
 exact Lib.wpList_append_run w hgd s x t t ho v xv hs hx v' w' hr (h v' w' h1 h2 h3)
end Go.Proofs.YtonkgdoaobojbaaGreatDoor
namespace Go.Proofs.YtonkgdoaobojbaaGreatDoor
def bLt (a b : ByteArray) : Bool := decide (a.data.toList < b.data.toList)
theorem bLt_irrefl (a : ByteArray) : bLt a a = false := by simp [bLt, List.lt_irrefl]
theorem bLt_trans {a b c : ByteArray} (h : bLt a b = true) (k : bLt b c = true) : bLt a c = true := by
 simp only [bLt, decide_eq_true_eq] at *; exact List.lt_trans h k
theorem bLt_asymm {a b : ByteArray} (h : bLt a b = true) : bLt b a = false := by
 cases hb : bLt b a with
 | false => rfl
 | true => have := bLt_trans h hb; rw [bLt_irrefl] at this; cases this
theorem eq_of_data {a b : ByteArray} (h : a.data.toList = b.data.toList) : a = b := by
 cases a; cases b; congr; exact Array.toList_inj.1 h
theorem bLt_total {a b : ByteArray} (h : bLt a b = false) (k : bLt b a = false) : a = b := by
 simp only [bLt, decide_eq_false_iff_not, List.not_lt] at h k
 exact eq_of_data (List.le_antisymm k h)
theorem less_eq (a b : ByteArray) : Op.bytesLess a.toList b.toList = bLt a b := by
 simp only [bLt, Lib.toList_data]
 rw [Proofs.bytesLess_eq]
def bIdx (s : ByteArray) (c : UInt8) : Int := Lib.indexByte s.data.toList c
def hasB (s : ByteArray) (c : UInt8) : Bool := s.data.toList.contains c
def okName (s : ByteArray) : Bool :=
 decide (1 <= s.size) && decide (s.size <= 255) && s.data.toList != [46] && s.data.toList != [46, 46] && !hasB s 47 && !hasB s 0
theorem indexByte_neg (l : List UInt8) (c : UInt8) : decide (Lib.indexByte l c < 0) = !l.contains c := by
 have hg := Lib.indexByte_ge
 induction l with
 | nil => rfl
 | cons b l ih =>
   unfold Lib.indexByte
   by_cases hb : (b == c) = true
   ·have : b = c := by simpa using hb
    subst this
    simp
   ·have hne : ¬ c = b := fun e => hb (by simp [e])
    have ih' : (Lib.indexByte l c < 0) ↔ ¬ c ∈ l := by
     have := ih; rw [Bool.eq_iff_iff] at this; simpa using this
    have h1 := hg l c
    simp only [hb, Bool.false_eq_true, if_false]
    rw [Bool.eq_iff_iff]
    by_cases h2 : Lib.indexByte l c = -1
    ·have : ¬ c ∈ l := ih'.1 (by omega)
     simp [h2, hne, this]
    ·have : c ∈ l := Decidable.byContradiction fun h => by have := ih'.2 h; omega
     simp [h2, hne, this]; omega
theorem bIdx_neg (s : ByteArray) (c : UInt8) : bIdx s c < 0 ↔ hasB s c = false := by
 have := indexByte_neg s.data.toList c; rw [Bool.eq_iff_iff] at this; simpa [bIdx, hasB] using this
theorem hasB_iff (s : ByteArray) (c : UInt8) : hasB s c = true ↔ ∃ (j : Nat) (h : j < s.size), s[j] = c := by
 obtain ⟨⟨l⟩⟩ := s
 simp only [hasB, List.contains_iff_mem]
 constructor
 ·intro h
  obtain ⟨j, hj, e⟩ := List.getElem_of_mem h
  exact ⟨j, hj, e⟩
 ·rintro ⟨j, hj, rfl⟩
  exact List.getElem_mem (l := l) hj
theorem byte_eq (x : UInt8) (c : Int) (h0 : 0 <= c) (h1 : c < 256) : ((x.toNat : Int) == c) = decide (x = c.toNat.toUInt8) := by
 have := x.toNat_lt
 rw [Bool.eq_iff_iff, beq_iff_eq, decide_eq_true_eq]
 constructor
 ·intro h
  apply UInt8.toNat_inj.1
  have e : c.toNat.toUInt8.toNat = c.toNat % 256 := by simp
  rw [e, <- h, Int.toNat_natCast]
  omega
 ·intro h
  rw [h]
  have e : c.toNat.toUInt8.toNat = c.toNat % 256 := by simp
  rw [e]; omega
theorem toList_nil (s : ByteArray) : s.toList = [] ↔ s.size = 0 := by
 rw [Lib.toList_data, Lib.size_eq, List.length_eq_zero_iff]
theorem okName_eq (s : ByteArray) : okName s = (!s.toList.isEmpty && decide ((s.size : Int) <= 255) && !(s.toList == [46]) && !(s.toList == [46, 46]) && decide (bIdx s 47 < 0) && decide (bIdx s 0 < 0)) := by
 have h0 := toList_nil s
 have h1 : (s.toList.isEmpty = true) ↔ s.size = 0 := by rw [List.isEmpty_iff]; exact h0
 rw [Bool.eq_iff_iff]
 simp only [okName, Bool.and_eq_true, decide_eq_true_eq, bIdx_neg, Bool.not_eq_true', beq_eq_false_iff_ne, bne_iff_ne, Lib.toList_data] at *
 have h2 : (s.data.toList.isEmpty = false) ↔ ¬ s.size = 0 := by rw [<- h1]; simp
 rw [h2]
 constructor
 ·rintro ⟨⟨⟨⟨⟨a, b⟩, c⟩, d⟩, e⟩, f⟩; exact ⟨⟨⟨⟨⟨by omega, by omega⟩, c⟩, d⟩, e⟩, f⟩
 ·rintro ⟨⟨⟨⟨⟨a, b⟩, c⟩, d⟩, e⟩, f⟩; exact ⟨⟨⟨⟨⟨by omega, by omega⟩, c⟩, d⟩, e⟩, f⟩
theorem okName_eq2 (s : ByteArray) : okName s = (decide (1 <= (s.size : Int)) && decide ((s.size : Int) <= 255) && !hasB s 47 && !hasB s 0 && !(s.toList == [46]) && !(s.toList == [46, 46])) := by
 rw [Bool.eq_iff_iff]
 simp only [okName, Bool.and_eq_true, decide_eq_true_eq, Bool.not_eq_true', beq_eq_false_iff_ne, bne_iff_ne, Lib.toList_data]
 constructor
 ·rintro ⟨⟨⟨⟨⟨a, b⟩, c⟩, d⟩, e⟩, f⟩; exact ⟨⟨⟨⟨⟨by omega, by omega⟩, e⟩, f⟩, c⟩, d⟩
 ·rintro ⟨⟨⟨⟨⟨a, b⟩, c⟩, d⟩, e⟩, f⟩; exact ⟨⟨⟨⟨⟨by omega, by omega⟩, e⟩, f⟩, c⟩, d⟩
/-! ### what a rising list gives -/
abbrev slashB : ByteArray := ⟨#[47]⟩
def pcsL : List UInt8 -> List (List UInt8)
 | [] => [[]]
 | c :: s => if c = 47 then [] :: pcsL s else match pcsL s with
   | [] => [[c]]
   | p :: r => (c :: p) :: r
theorem pcsL_ne : ∀ s, pcsL s ≠ []
 | [] => by simp [pcsL]
 | c :: s => by
   unfold pcsL
   split
   ·simp
   ·split <;> simp
theorem pcsL_none : ∀ s : List UInt8, (∀ c ∈ s, ¬ c = 47) -> pcsL s = [s]
 | [], _ => rfl
 | c :: s, h => by
   unfold pcsL
   rw [if_neg (h c (by simp)), pcsL_none s (fun x hx => h x (by simp [hx]))]
theorem pcsL_cut : ∀ (p s : List UInt8), (∀ c ∈ p, ¬ c = 47) -> pcsL (p ++ 47 :: s) = p :: pcsL s
 | [], s, _ => by simp [pcsL]
 | c :: p, s, h => by
   show pcsL (c :: (p ++ 47 :: s)) = _
   rw [pcsL, if_neg (h c (by simp)), pcsL_cut p s (fun x hx => h x (by simp [hx]))]
def ofL (l : List UInt8) : ByteArray := ⟨l.toArray⟩
theorem ofL_data (s : ByteArray) : ofL s.data.toList = s := by cases s; simp [ofL]
theorem ofL_toList (l : List UInt8) : (ofL l).data.toList = l := by simp [ofL]
theorem len_data (s : ByteArray) : s.data.toList.length = s.size := (Lib.size_eq s).symm
theorem data_extract (s : ByteArray) (i j : Nat) : (s.extract i j).data.toList = (s.data.toList.take j).drop i := by
 rw [Lib.extract_data, List.drop_take]
def pcs (s : ByteArray) : List ByteArray := (pcsL s.data.toList).map ofL
theorem pcs_none (s : ByteArray) (f : Nat) (hf : f <= s.size) (h : ∀ (j : Nat) (hj : j < s.size), f <= j -> ¬ s[j] = 47) : pcs (s.extract f s.size) = [s.extract f s.size] := by
 unfold pcs
 rw [pcsL_none]
 ·rw [List.map_cons, List.map_nil, ofL_data]
 ·intro c hc
  rw [data_extract] at hc
  obtain ⟨k, hk, e⟩ := List.mem_iff_getElem.1 hc
  simp only [List.getElem_drop, List.getElem_take] at e
  simp only [List.length_drop, List.length_take] at hk
  have h2 : f + k < s.size := by omega
  have := h (f + k) h2 (by omega)
  rw [<- e]
  exact this
theorem pcs_cut (s : ByteArray) (f k : Nat) (hf : f <= k) (hk : k < s.size) (hc : s[k] = 47) (h : ∀ (j : Nat) (hj : j < s.size), f <= j -> j < k -> ¬ s[j] = 47) :
 pcs (s.extract f s.size) = s.extract f k :: pcs (s.extract (k + 1) s.size) := by
 have hl : s.data.toList.length = s.size := len_data s
 have e : (s.extract f s.size).data.toList = (s.extract f k).data.toList ++ 47 :: (s.extract (k + 1) s.size).data.toList := by
  rw [data_extract, data_extract, data_extract, List.take_of_length_le (by omega)]
  apply List.ext_getElem?
  intro i
  by_cases hi : i < k - f
  ·rw [List.getElem?_append_left (by simp; omega)]
   simp only [List.getElem?_drop, List.getElem?_take]
   rw [if_pos (by omega)]
  ·rw [List.getElem?_append_right (by simp; omega)]
   have e2 : ((s.data.toList.take k).drop f).length = k - f := by simp; omega
   rw [e2]
   by_cases hj : i - (k - f) = 0
   ·rw [hj, List.getElem?_cons_zero, List.getElem?_drop, show f + i = k by omega, List.getElem?_eq_getElem (by omega)]
    rw [<- hc]; rfl
   ·obtain ⟨n, hn⟩ : ∃ n, i - (k - f) = n + 1 := ⟨i - (k - f) - 1, by omega⟩
    rw [hn, List.getElem?_cons_succ, List.getElem?_drop, List.getElem?_drop]
    congr 1
    omega
 unfold pcs
 rw [e, pcsL_cut]
 ·rw [List.map_cons, ofL_data]
 ·intro c hc
  rw [data_extract] at hc
  obtain ⟨n, hn, e⟩ := List.mem_iff_getElem.1 hc
  simp only [List.getElem_drop, List.getElem_take] at e
  simp only [List.length_drop, List.length_take] at hn
  have h2 : f + n < s.size := by omega
  rw [<- e]
  exact h (f + n) h2 (by omega) (by omega)
theorem extract_all (s : ByteArray) : s.extract 0 s.size = s := by
 apply eq_of_data
 rw [data_extract, List.drop_zero, List.take_of_length_le (by rw [len_data]; exact Nat.le_refl _)]
theorem pcs_size (s : ByteArray) : ∀ p ∈ pcs s, p.size <= s.size := by
 have key : ∀ l : List UInt8, ∀ p ∈ pcsL l, p.length <= l.length := by
  intro l
  induction l with
  | nil => intro p hp; simp [pcsL] at hp; subst hp; simp
  | cons c l ih =>
    intro p hp
    unfold pcsL at hp
    split at hp
    ·rcases List.mem_cons.1 hp with h | h
     ·subst h; simp
     ·have := ih p h; simp; omega
    ·cases h : pcsL l with
     | nil => exact absurd h (pcsL_ne l)
     | cons q r =>
       rw [h] at hp ih
       rcases List.mem_cons.1 hp with h2 | h2
       ·subst h2; have := ih q (by simp); simp; omega
       ·have := ih p (by simp [h2]); simp; omega
 intro p hp
 obtain ⟨l, hl, rfl⟩ := List.mem_map.1 hp
 have := key _ l hl
 rw [<- len_data (ofL l), ofL_toList]
 rwa [len_data] at this
theorem pcs_length (s : ByteArray) : (pcs s).length <= s.size + 1 := by
 have key : ∀ l : List UInt8, (pcsL l).length <= l.length + 1 := by
  intro l
  induction l with
  | nil => simp [pcsL]
  | cons c l ih =>
    unfold pcsL
    split
    ·simp; omega
    ·split
     ·simp
     ·rename_i q r h; rw [h] at ih; simp at ih ⊢; omega
 have := key s.data.toList
 rw [len_data] at this
 rw [pcs, List.length_map]
 exact this
def endS (s : ByteArray) : Bool := decide (0 < s.size ∧ s.data.toList[s.size - 1]? = some 47)
end Go.Proofs.YtonkgdoaobojbaaGreatDoor
namespace Go.Proofs.YtonkgdoaobojbaaGreatDoor
open Go Go.RowKit
theorem elemOf {α : Type} {P : Program} {E : Enc α} {t e : TypeId} {z : α} {bytes : Nat} (zv : Value) (hu : P.underlying t = some (.slice e))
 (h : (P.info? e).map (fun i => (i.zero, i.size, i.bytes)) = some (some zv, E.k, bytes)) (hz : zv.cells.toList = E.enc z) : ElemT P E t e z bytes := by
 refine ⟨hu, ?_⟩
 cases hi : P.info? e with
 | none => rw [hi] at h; cases h
 | some i => rw [hi] at h; simp at h; exact ⟨i, rfl, h.2.1, h.2.2, zv, h.1, hz⟩
theorem kset (w : World) (p : Addr) (u : Value) : Keeps (fun x => x = p.block) w (w.setCell p u) := Keeps.setCell (p := p) (Keeps.refl (fun x => x = p.block) w) (Or.inl rfl) u
theorem ba_eq {a b : ByteArray} (h : a.data.toList = b.data.toList) : a = b := ByteArray.ext (Array.toList_inj.1 h)
theorem xell_set {w : World} {g j k : Nat} {v u : Value} (h : w.cell? ⟨g, j, none⟩ = some v) : (w.setCell ⟨g, k, none⟩ u).cell? ⟨g, j, none⟩ = some (if j = k then u else v) := by
 by_cases e : j = k
 ·subst e; rw [if_pos rfl]; exact World.cell?_setCell_same _ _ _ h
 ·rw [if_neg e, World.cell?_setCell_other _ _ _ _ (by simp [e])]; exact h
theorem xrozen_set (w : World) (p q : Addr) (u : Value) : (w.setCell p u).frozen? q = w.frozen? q := by simp
structure Bk (w : World) (B : Nat) (l : List Value) : Prop where
 lt : B < w.heap.size
 cell : ∀ i v, l[i]? = some v -> w.cell? ⟨B, i, none⟩ = some v
 fz : ∀ j, w.frozen? ⟨B, j, none⟩ = false
section
variable {w w' : World} {B : Nat} {l : List Value}
theorem Bk.new {cs : Array Value} {T : TypeId} (k : Keeps NoB (w.alloc (.cells cs T)) w') : Bk w' w.heap.size cs.toList := by
 have hn := heap_alloc_new w (.cells cs T)
 have h4 := (k.block w.heap.size (by simp) (fun h => h)).trans hn
 refine ⟨Nat.lt_of_lt_of_le (by simp) k.size, fun i v hv => ?_, fun j => frozen_of_row w' _ j _ T h4⟩
 rw [cell_of_row w' _ i _ T (0, 0) h4, <- Array.getElem?_toList]
 exact hv
theorem Bk.keep {G : Nat -> Prop} (h : Bk w B l) (k : Keeps G w w') (hB : ¬ G B) : Bk w' B l :=
 ⟨Nat.lt_of_lt_of_le h.lt k.size, fun i v hv => (k.cell (p := ⟨B, i, none⟩) h.lt hB).trans (h.cell i v hv), fun j => (k.frozen (p := ⟨B, j, none⟩) h.lt hB).trans (h.fz j)⟩
theorem Bk.on (h : Bk w B l) (k : Keeps NoB w w') : Bk w' B l := h.keep k (fun h => h)
theorem Bk.put (h : Bk w B l) (i : Nat) (v : Value) : Bk (w.setCell ⟨B, i, none⟩ v) B (l.set i v) := by
 refine ⟨by simpa using h.lt, fun j u hu => ?_, fun j => (xrozen_set _ _ _ _).trans (h.fz j)⟩
 rw [List.getElem?_set] at hu
 split at hu
 ·next e =>
  subst e
  split at hu
  ·next hl =>
   cases hu
   have := xell_set (k := i) (u := v) (h.cell i _ (List.getElem?_eq_getElem hl))
   rw [if_pos rfl] at this
   exact this
  ·cases hu
 ·next e =>
  have := xell_set (k := i) (u := v) (h.cell j u hu)
  rw [if_neg (fun x => e x.symm)] at this
  exact this
end
end Go.Proofs.YtonkgdoaobojbaaGreatDoor
set_option maxHeartbeats 4000000
namespace Go.Proofs.YtonkgdoaobojbaaGreatDoor
def uuL (n : Nat) : UInt8 := if n = 0 then 96 else UInt8.ofNat (32 + n)
theorem uuL_nat : ∀ n : Fin 64, ((uuL n.val).toNat : Int) = if n.val = 0 then 96 else 32 + (n.val : Int) := by decide
def uuN (a b c : UInt8) : Nat := a.toNat * 65536 + b.toNat * 256 + c.toNat
theorem uuN_lt (a b c : UInt8) : uuN a b c < 16777216 := by
 unfold uuN
 have := a.toNat_lt; have := b.toNat_lt; have := c.toNat_lt
 omega
def uu4 (n : Nat) : List UInt8 := [uuL (n / 262144 % 64), uuL (n / 4096 % 64), uuL (n / 64 % 64), uuL (n % 64)]
def uuG : List UInt8 -> List UInt8
 | [] => []
 | [a] => uu4 (uuN a 0 0)
 | [a, b] => uu4 (uuN a b 0)
 | a :: b :: c :: l => uu4 (uuN a b c) ++ uuG l
def uuLine (l : List UInt8) : List UInt8 := uuL l.length :: (uuG l ++ [10])
def uuRest (s : List UInt8) : List UInt8 := if h : s = [] then uuLine [] ++ [101, 110, 100, 10] else uuLine (s.take 45) ++ uuRest (s.drop 45)
termination_by s.length
decreasing_by
 have : 0 < s.length := List.length_pos_iff.2 h
 simp; omega
theorem uuRest_nil : uuRest [] = [96, 10, 101, 110, 100, 10] := by rw [uuRest, dif_pos rfl]; rfl
theorem uuRest_step {s : List UInt8} (h : s ≠ []) : uuRest s = uuLine (s.take 45) ++ uuRest (s.drop 45) := by rw [uuRest, dif_neg h]
theorem uuG_len : ∀ l : List UInt8, (uuG l).length = (l.length + 2) / 3 * 4
 | [] => rfl
 | [_] => by simp [uuG, uu4]
 | [_, _] => by simp [uuG, uu4]
 | a :: b :: c :: l => by
   rw [uuG, List.length_append, uuG_len l]
   show 4 + _ = _
   simp only [List.length_cons]
   omega
theorem uuLine_len (l : List UInt8) : (uuLine l).length = (l.length + 2) / 3 * 4 + 2 := by
 unfold uuLine
 rw [List.length_cons, List.length_append, uuG_len]
 rfl
def uuSize (n : Nat) : Nat := n / 45 * 62 + (if 0 < n % 45 then (n % 45 + 2) / 3 * 4 + 2 else 0) + 6
theorem uuRest_len (s : List UInt8) : (uuRest s).length = uuSize s.length := by
 induction h : s.length using Nat.strongRecOn generalizing s with
 | ind n ih =>
   subst h
   by_cases hs : s = []
   ·subst hs; rw [uuRest_nil]; rfl
   ·rw [uuRest_step hs, List.length_append, uuLine_len, ih (s.drop 45).length (by have := List.length_pos_iff.2 hs; simp; omega) _ rfl]
    have := List.length_pos_iff.2 hs
    rw [List.length_take, List.length_drop]
    unfold uuSize
    rcases Nat.lt_or_ge s.length 45 with h | h
    ·rw [Nat.min_eq_right (by omega), Nat.sub_eq_zero_of_le (by omega), Nat.div_eq_of_lt h, Nat.mod_eq_of_lt h, if_pos this]
     simp
    ·rw [Nat.min_eq_left h]
     have h1 : s.length / 45 = (s.length - 45) / 45 + 1 := by omega
     have h2 : s.length % 45 = (s.length - 45) % 45 := by omega
     rw [h1, h2]
     omega
end Go.Proofs.YtonkgdoaobojbaaGreatDoor
namespace Go.Proofs.YtonkgdoaobojbaaGreatDoor
open Go Go.Shelf Go.RowKit
def lays169_ren : Go.Shelf.Ren :=
{
 f := fun x =>
   match x with
   | 169 => 54
   | n => n,
 t := fun x =>
   match x with
   | 70 => 96
   | 9 => 9
   | 0 => 0
   | 72 => 98
   | 37 => 58
   | 127 => 131
   | 3 => 3
   | 5 => 5
   | n => n,
 g := fun x =>
   have n := x;
   n }
theorem lays169 : Lays.n169 Tryz.prog lays169_ren :=
{ mixed := Eq.refl true, f169 := Eq.trans Tryz.func54 (congrArg some (Eq.refl (Body.n169 lays169_ren))),
  t0 := Tryz.underlying0, a0 := Tryz.isAgg0, z0 := Tryz.sizeOf0, v0 := Tryz.zeroValue0, t3 := Tryz.underlying3,
  a3 := Tryz.isAgg3, z3 := Tryz.sizeOf3, v3 := Tryz.zeroValue3, t9 := Tryz.underlying9, a9 := Tryz.isAgg9,
  z9 := Tryz.sizeOf9, v9 := Tryz.zeroValue9, t37 := Tryz.underlying58, a37 := Tryz.isAgg58, z37 := Tryz.sizeOf58,
  v37 := Tryz.zeroValue58, t70 := Tryz.underlying96, a70 := Tryz.isAgg96, z70 := Tryz.sizeOf96, v70 := Tryz.zeroValue96,
  t72 := Tryz.underlying98, a72 := Tryz.isAgg98, z72 := Tryz.sizeOf98, v72 := Tryz.zeroValue98,
  t127 := Tryz.underlying131, a127 := Tryz.isAgg131, z127 := Tryz.sizeOf131, v127 := Tryz.zeroValue131 }
end Go.Proofs.YtonkgdoaobojbaaGreatDoor
namespace Go.Proofs.YtonkgdoaobojbaaGreatDoor
open Go Go.RowKit
section
variable {α : Type} {E : Enc α} {P : Program} {t e : TypeId} {z : α} {bytes : Nat} {S : Nat -> Prop} {w : World}
theorem run_appendS (T : ElemT P E t e z bytes) (ty tx : TypeId) {v x : Value} {l m : List α} (ho : Own E e S w v l) (hSrc : Src P E.k tx x m.length (m.flatMap E.enc) w)
 (hS : S w.heap.size) (h63 : l.length + m.length <= maxLen) (hb : (l.length + m.length) * bytes <= 140737488355328) :
 ∃ v' w', (Builtin.append_ #[t, tx] ty #[v, x]).run P w = .ok v' w' ∧ Own E e S w' v' (l ++ m) ∧ Keeps (fun g => v.ownBlock = some g) w w' ∧
   (∀ g, v'.ownBlock = some g -> v.ownBlock = some g ∨ w.heap.size <= g) := by
 obtain ⟨i, hi, hik, hib, zv, hz, hzc⟩ := T.info
 rw [<- hik] at hSrc
 have h63' : ((l.length + m.length : Nat) : Int) <= 9223372036854775807 := by simp only [maxLen] at h63; omega
 have hKr : ∀ cs : Array Value, Keeps (fun g => v.ownBlock = some g) w (w.drew.alloc (.cells cs e)) := fun cs => ((Keeps.refl _ w).drew).alloc _
 have hgrow : ∀ base sLen sCap, l.length = sLen -> sCap < sLen + m.length ->
  (Builtin.firstCells i.size sLen (.slice base sLen sCap)).run P w.drew = .ok (l.flatMap E.enc).toArray w.drew ->
  ∃ v' w', (Builtin.append_ #[t, tx] ty #[.slice base sLen sCap, x]).run P w = .ok v' w' ∧ Own E e S w' v' (l ++ m) ∧ Keeps (fun g => v.ownBlock = some g) w w' ∧
    (∀ g, v'.ownBlock = some g -> v.ownBlock = some g ∨ w.heap.size <= g) := by
  intro base sLen sCap hl hlt hold
  subst hl
  have hr := run_append_grow_src (P := P) w t tx ty e i zv T.under hi hz base l.length sCap (l.flatMap E.enc) hold _ m.length _ hSrc hlt h63' (growslice_fits hlt (by rw [hib]; exact hb))
  have hge := grownCap_ge w (l.length + m.length) sCap e
  have hle := grownCap_le_maxLen w (l.length + m.length) sCap e h63
  refine ⟨_, _, hr, ?_, hKr _, fun g hg => by simp [Value.ownBlock] at hg; right; omega⟩
  have hfr := own_fresh (E := E) (e := e) (S := S) (w := w.drew) (l ++ m) (List.replicate (grownCap w (l.length + m.length) sCap e - (l.length + m.length)) z) hS
   (by simp; omega) ((l.flatMap E.enc ++ m.flatMap E.enc).toArray ++ Builtin.zeroCells zv.cells (grownCap w (l.length + m.length) sCap e - (l.length + m.length)))
   (by simp [zeroCells_flat (E := E) zv.cells _ hzc])
  rw [show (l ++ m).length + (List.replicate (grownCap w (l.length + m.length) sCap e - (l.length + m.length)) z).length = grownCap w (l.length + m.length) sCap e by simp; omega] at hfr
  rw [show (l ++ m).length = l.length + m.length by simp] at hfr
  exact hfr
 rcases ho.cases with ⟨rfl, rfl⟩ | ⟨g, cap, cur, rfl, hSg, hg, hcap, hmax, hsz, htk⟩
 ·by_cases h0 : m.length = 0
  ·have : m = [] := List.eq_nil_of_length_eq_zero h0
   subst this
   refine ⟨.slice none 0 0, w, ?_, Own.nil E e S w, Keeps.refl _ w, fun g hg => .inl hg⟩
   have h1 := hSrc.len w
   have h2 := hSrc.cells
   simp only [List.length_nil, List.flatMap_nil] at h1 h2 ⊢
   rcases hSrc.kind with ⟨e', hk⟩ | hk <;> simp [Builtin.append_, run_underlying T.under, run_underlying hk, sizeOf, typeInfo, hi, h1, h2]
  ·exact hgrow none 0 0 rfl (by simp; omega) (run_firstCells_none _ _ _ _ _)
 ·by_cases hroom : l.length + m.length <= cap
  ·have hr := run_append_room_src (P := P) w t tx ty e i T.under hi g 0 l.length cap _ m.length (m.flatMap E.enc) hSrc hroom
    (fun j hj => by
      rw [E.flat_len] at hj
      have : (l.length + m.length) * E.k <= cap * E.k := Nat.mul_le_mul_right _ hroom
      rw [Nat.add_mul] at this
      rw [cell_of_row w g _ cur e (0, 0) hg, Array.getElem?_eq_getElem (by rw [hik, hsz]; omega)]; rfl)
    (fun j _ => frozen_of_row w g _ cur e hg)
   have hfit : l.length * E.k + (m.flatMap E.enc).length <= cur.size := by
    have : (l.length + m.length) * E.k <= cap * E.k := Nat.mul_le_mul_right _ hroom
    rw [Nat.add_mul] at this; rw [E.flat_len, hsz]; omega
   have hst1 := run_storeCells_at P g (l.length * E.k) e (m.flatMap E.enc) 0 cur w hg (by simpa using hfit) (E.flat_one m)
   have hst2 := run_storeCells_cells (P := P) g (l.length * E.k) (m.flatMap E.enc) 0 w
    (fun j hj => by rw [cell_of_row w g _ cur e (0, 0) hg, Array.getElem?_eq_getElem (by omega)]; rfl) (fun j _ => frozen_of_row w g _ cur e hg) (E.flat_one m)
   have hw : w.setCells g (0 + l.length * i.size) (m.flatMap E.enc) = w.setRow g (cur.toList.take (l.length * E.k) ++ m.flatMap E.enc ++ cur.toList.drop (l.length * E.k + (m.flatMap E.enc).length)).toArray := by
    rw [hik, Nat.zero_add]
    rw [hst2] at hst1
    simp only [Nat.add_zero] at hst1
    injection hst1
   rw [hw] at hr
   refine ⟨_, _, hr, ?_, ⟨rfl, rfl, rfl, by simp, fun k _ hk => setRow_other w g k _ (fun e => hk (by simp [Value.ownBlock, e]))⟩, fun g' hg' => .inl hg'⟩
   rw [show l.length + m.length = (l ++ m).length by simp]
   refine Own.mk hSg (setRow_heap w g cur _ e _ hg) (by simpa using hroom) hmax ?_ ?_
   ·have hL : cur.toList.length = cap * E.k := by rw [Array.length_toList]; exact hsz
    rw [List.size_toArray, List.length_append, List.length_append, List.length_take, List.length_drop]; omega
   ·rw [htk, <- E.flat_len, List.flatMap_append]
    simp only [List.append_assoc]
    rw [<- List.append_assoc]
    exact List.take_left
  ·refine hgrow _ _ _ rfl (by omega) (run_firstCells_some w.drew i.size l.length ⟨g, 0, none⟩ l.length cap _ (by rw [E.flat_len, hik]) (fun j u hu => ?_))
   rw [add_lit, World.cell?_drew, cell_of_row w g _ cur e (0, 0) hg, Nat.zero_add, <- hu, <- htk, List.getElem?_take, if_pos (by have := (List.getElem?_eq_some_iff.1 hu).1; rw [E.flat_len] at this; exact this)]
   simp
end
theorem wpl_appendS {α : Type} {E : Enc α} {P : Program} {t tx e : TypeId} {z : α} {bytes : Nat} {S : Nat -> Prop} {w : World} {ops : Array Oper} {Q : Exit -> Act -> World -> Prop} {rest : List Oper} {o : Oper} {a : Act}
 (hgd : o.guard = none) (s x : Operand) (ho : o.op = .call { callee := .builtin .append, args := #[s, x], argTypes := #[t, tx] }) (T : ElemT P E t e z bytes)
 {v xv : Value} {l m : List α} (hown : Own E e S w v l) (hsl : Src P E.k tx xv m.length (m.flatMap E.enc) w) (hs : a.eval s = v) (hx : a.eval x = xv) (hS : S w.heap.size)
 (h63 : l.length + m.length <= maxLen) (hb : (l.length + m.length) * bytes <= 140737488355328)
 (h : ∀ v' w', Own E e S w' v' (l ++ m) -> Keeps (fun g => v.ownBlock = some g) w w' -> (∀ g, v'.ownBlock = some g -> v.ownBlock = some g ∨ w.heap.size <= g) -> wpList P ops Q rest (a.put o.dst v') w') :
 wpList P ops Q (o :: rest) a w := by
 obtain ⟨v', w', hr, h1, h2, h3⟩ := run_appendS T o.type tx hown hsl hS h63 hb
 exact Lib.wpList_append_run w hgd s x t tx ho v xv hs hx v' w' hr (h v' w' h1 h2 h3)
def encU8 : Enc UInt8 where
 enc := fun c => [.int .u8 (c.toNat : Int)]
 k := 1
 pos := by decide
 len := fun _ => rfl
 one := fun x v hv => by simp at hv; subst hv; rfl
theorem tU8 : ElemT Tryz.prog encU8 58 5 0 1 :=
 elemOf (.int .u8 0) Tryz.underlying58 (by kernel_rfl) rfl
structure BA (S : Nat -> Prop) (w : World) (b : Nat) (s : List UInt8) : Prop where
 ex : ∃ p v, w.heap[b]? = some (.cells #[p, v] 98 (0, 0)) ∧ (p = .pointer none ∨ p = .pointer (some ⟨b, 0, none⟩)) ∧ Own encU8 5 S w v s
 nS : ¬ S b
section
variable {S : Nat -> Prop} {w w' : World} {b : Nat} {s : List UInt8}
theorem BA.lt (h : BA S w b s) : b < w.heap.size := by
 obtain ⟨p, v, h1, _⟩ := h.ex
 exact lt_of_block h1
theorem BA.keep {F : Nat -> Prop} (h : BA S w b s) (k : Keeps F w w') (hb : ¬ F b) (hF : ∀ g, S g -> ¬ F g) : BA S w' b s := by
 obtain ⟨p, v, h1, h2, h3⟩ := h.ex
 exact ⟨⟨p, v, (k.block b (lt_of_block h1) hb).trans h1, h2, h3.keep k (fun g hg => hF g (h3.2 g hg))⟩, h.nS⟩
theorem BA.on (h : BA S w b s) (k : Keeps NoB w w') : BA S w' b s := h.keep k (fun h => h) (fun _ _ h => h)
theorem BA.mono {S' : Nat -> Prop} (h : BA S w b s) (hS : ∀ g, S g -> g < w.heap.size -> S' g) (hn : ¬ S' b) : BA S' w b s := by
 obtain ⟨p, v, h1, h2, h3⟩ := h.ex
 exact ⟨⟨p, v, h1, h2, h3.mono (fun g hg hs => hS g hs (h3.lt g hg))⟩, hn⟩
theorem BA.new (w : World) (hn : ¬ S w.heap.size) : BA S (w.alloc (.cells #[.pointer none, .slice none 0 0] 98)) w.heap.size [] :=
 ⟨⟨_, _, heap_alloc_new w _, .inl rfl, Own.nil _ _ _ _⟩, hn⟩
theorem sbCopy_any (h : BA S w b s) : Calls Tryz.prog 83 #[.pointer (some ⟨b, 0, none⟩)] w fun e w' => e = .returned (.tuple #[]) ∧
 (∃ v, w'.heap[b]? = some (.cells #[.pointer (some ⟨b, 0, none⟩), v] 98 (0, 0)) ∧ Own encU8 5 S w' v s) ∧ Keeps (fun g => g = b) w w' := by
 obtain ⟨p, v, h1, h2, h3⟩ := h.ex
 have c0 : w.cell? ⟨b, 0, none⟩ = some p := by rw [Lib.cell_of_heap h1]; rfl
 have hj : ((Tryz.prog.info? 98).map (·.size)) = some 2 := by kernel_rfl
 obtain ⟨j, hj, hjs⟩ := Option.map_eq_some_iff.1 hj
 rcases h2 with rfl | rfl
 ·have hsh : w.shape? b = some (98, 2) := by simp [World.shape?, h1]
  have hfz : w.frozen? ⟨b, 0, none⟩ = false := Lib.frozen_of_heap h1 0
  have HR : Hid (∃ v', (w.setCell ⟨b, 0, none⟩ (.pointer (some ⟨b, 0, none⟩))).heap[b]? = some (.cells #[.pointer (some ⟨b, 0, none⟩), v'] 98 (0, 0)) ∧ Own encU8 5 S (w.setCell ⟨b, 0, none⟩ (.pointer (some ⟨b, 0, none⟩))) v' s) := by
   refine ⟨v, ?_, h3.keep (kset w ⟨b, 0, none⟩ _) (fun g hg e => h.nS (by rw [<- show g = b from e]; exact h3.2 g hg))⟩
   simp [World.setCell, Array.getElem?_modify, h1]
  have HK := Lib.hid (kset w ⟨b, 0, none⟩ (.pointer (some ⟨b, 0, none⟩)))
  clear h h1 h3
  have hto := fun wx : World => fun (hs : wx.shape? b = some (98, 2)) => Lib.run_to_unsafe (P := Tryz.prog) wx (src := 96) (dst := 150) ⟨b, 0, none⟩ Tryz.underlying96 Tryz.underlying150 hj (by rw [hjs]; decide) hs (Nat.zero_lt_succ 1)
  have hto1 := Lib.hid (hto w hsh)
  clear hto
  go_enter Tryz.func83, Tryz.ntmps83
  go_wp2
  rw [hto1.out]
  simp only [Result.andThen]
  rw [Oper.upon_value]
  go_wp2
  rw [run_callFunc_extern Tryz.func112 (by kernel_rfl) (by kernel_rfl) (by kernel_rfl) (e := Extern.AbiNoEscape.same) (by kernel_rfl)]
  rw [Lib.run_noEscape]
  simp only [Result.andThen]
  rw [Oper.upon_value]
  go_wp2
  rw [Lib.run_from_unsafe w ⟨b, 0, none⟩ Tryz.underlying150 Tryz.underlying96 hj hsh (by kernel_rfl)]
  simp only [Result.andThen]
  rw [Oper.upon_value]
  go_wp2
  go_end0
  exact ⟨rfl, HR.out, HK.out⟩
 ·have H3 := Lib.hid h3
  have H1 := Lib.hid h1
  clear h h1 h3
  go_enter Tryz.func83, Tryz.ntmps83
  go_wp2
  rw [Lib.run_neq_ptr_same w _ Tryz.underlying96 hj]
  go_wp2
  go_end0
  exact ⟨rfl, ⟨v, H1.out, H3.out⟩, Keeps.refl _ _⟩
theorem ba_put {w1 w2 : World} {v v' : Value} {s' : List UInt8} (h1 : w1.heap[b]? = some (.cells #[.pointer (some ⟨b, 0, none⟩), v] 98 (0, 0))) (ho : Own encU8 5 S w1 v s) (hn : ¬ S b)
 (h2 : Own encU8 5 S w2 v' s') (k : Keeps (fun g => v.ownBlock = some g) w1 w2) :
 w2.cell? ⟨b, 0, none⟩ = some (.pointer (some ⟨b, 0, none⟩)) ∧ w2.cell? ⟨b, 1, none⟩ = some v ∧ w2.frozen? ⟨b, 1, none⟩ = false ∧ BA S (w2.setCell ⟨b, 1, none⟩ v') b s' ∧ Keeps (fun g => g = b ∨ S g) w1 (w2.setCell ⟨b, 1, none⟩ v') := by
 have hb2 : w2.heap[b]? = some (.cells #[.pointer (some ⟨b, 0, none⟩), v] 98 (0, 0)) := (k.block b (lt_of_block h1) (fun e => hn (ho.2 b e))).trans h1
 refine ⟨by rw [Lib.cell_of_heap hb2]; rfl, by rw [Lib.cell_of_heap hb2]; rfl, Lib.frozen_of_heap hb2 1, ⟨⟨.pointer (some ⟨b, 0, none⟩), v', ?_, .inr rfl, h2.keep (kset w2 ⟨b, 1, none⟩ _) (fun g hg e => hn (by rw [<- show g = b from e]; exact h2.2 g hg))⟩, hn⟩, ?_⟩
 ·simp [World.setCell, Array.getElem?_modify, hb2]
 ·exact (k.mono (fun g _ hg => .inr (ho.2 g hg))).trans ((kset w2 ⟨b, 1, none⟩ v').mono (fun g _ hg => .inl hg))
theorem sbWriteByte_any (h : BA S w b s) (hS : ∀ g, w.heap.size <= g -> S g) (c : UInt8) (hl : s.length + 1 <= 4294967296) :
 Calls Tryz.prog 85 #[.pointer (some ⟨b, 0, none⟩), .int .u8 (c.toNat : Int)] w fun e w' => e = .returned .nilIface ∧ BA S w' b (s ++ [c]) ∧ Keeps (fun g => g = b ∨ S g) w w' := by
 have HC := Lib.hid (sbCopy_any h)
 have HN := Lib.hid h.nS
 have HS := Lib.hid hS
 clear h hS
 go_enter Tryz.func85, Tryz.ntmps85
 go_upto_region 2 with (go_at_call 83; go_loud (refine HC.out.mono ?_); rintro e w1 ⟨rfl, ⟨v, h1, h3⟩, k1⟩)
 have c1 : w1.cell? ⟨b, 1, none⟩ = some v := by rw [Lib.cell_of_heap h1]; rfl
 have hs1 := k1.size
 have H1 := Lib.hid h1
 have H3 := Lib.hid h3
 have HK := Lib.hid k1
 clear HC h1 h3 k1
 go_wp2_with (at_builtin; go_loud (refine wpl_append rfl (.tmp 11) (.tmp 13) rfl tU8 (H3.out.keep ((Keeps.refl NoB w1).alloc _) (fun _ _ h => h)) (own_lit (E := encU8) (e := 5) (w := w1) (S := fun _ => True) [c] #[.int .u8 (c.toNat : Int)] rfl 1 rfl trivial (by decide)).sl rfl rfl (HS.out _ (by simp; omega)) (by simp [maxLen]; omega) (by simp; omega) ?_))
 intro v' w2 ho2 hk2 _
 have ka : Keeps NoB w1 (w1.alloc (.cells #[.int .u8 (c.toNat : Int)] 5)) := (Keeps.refl _ _).alloc _
 have H1a := Lib.hid ((ka.block b (lt_of_block H1.out) (fun h => h)).trans H1.out)
 have H3a := Lib.hid (H3.out.keep ka (fun _ _ h => h))
 obtain ⟨d0, d1, f1, hB, hK⟩ := ba_put H1a.out H3a.out HN.out ho2 hk2
 have HB := Lib.hid hB
 have HK2 := Lib.hid ((HK.out.mono (F := fun g => g = b) (G := fun g => g = b ∨ S g) (fun g _ hg => .inl hg)).trans (ka.of_none.trans hK))
 obtain ⟨a2, n2, c2, rfl⟩ : ∃ a2 n2 c2, v' = .slice a2 n2 c2 := by
  rcases ho2.cases with ⟨hv, _⟩ | ⟨g, cap, cur, hv, _⟩
  ·exact ⟨_, _, _, hv⟩
  ·exact ⟨_, _, _, hv⟩
 clear ho2 hk2 hB hK c1 H1 H3 H1a H3a ka HS HN
 go_wp2
 go_ret
 exact ⟨rfl, HB.out, HK2.out⟩
theorem sbWrite_any (h : BA S w b s) (hS : ∀ g, w.heap.size <= g -> S g) {p : Option Addr} {cp : Nat} {l : List UInt8} {S2 : Nat -> Prop} (hl2 : SlAt encU8 S2 w p cp l) (h2b : ¬ S2 b) (hl : s.length + l.length <= 4294967296) :
 Calls Tryz.prog 108 #[.pointer (some ⟨b, 0, none⟩), .slice p l.length cp] w fun e w' => e = .returned (.tuple #[.int .i64 l.length, .nilIface]) ∧ BA S w' b (s ++ l) ∧ Keeps (fun g => g = b ∨ S g) w w' := by
 have HC := Lib.hid (sbCopy_any h)
 have HN := Lib.hid h.nS
 have HS := Lib.hid hS
 have HL := Lib.hid hl2
 clear h hS hl2
 go_enter Tryz.func108, Tryz.ntmps108
 go_upto_region 2 with (go_at_call 83; go_loud (refine HC.out.mono ?_); rintro e w1 ⟨rfl, ⟨v, h1, h3⟩, k1⟩)
 have c1 : w1.cell? ⟨b, 1, none⟩ = some v := by rw [Lib.cell_of_heap h1]; rfl
 have hs1 := k1.size
 have H1 := Lib.hid h1
 have H3 := Lib.hid h3
 have HK := Lib.hid k1
 have HL1 := Lib.hid (HL.out.keep k1 (fun g hg _ e => h2b (by rw [<- show g = b from e]; exact hg)))
 clear HC h1 h3 k1 h2b HL
 go_wp2_with (at_builtin; go_loud (refine wpl_append rfl (.tmp 12) (.tmp 13) rfl tU8 H3.out (Sl.of HL1.out) rfl rfl (HS.out _ (by omega)) (by simp [maxLen]; omega) (by omega) ?_))
 intro v' w2 ho2 hk2 _
 obtain ⟨d0, d1, f1, hB, hK⟩ := ba_put H1.out H3.out HN.out ho2 hk2
 have HB := Lib.hid hB
 have HK2 := Lib.hid ((HK.out.mono (F := fun g => g = b) (G := fun g => g = b ∨ S g) (fun g _ hg => .inl hg)).trans hK)
 obtain ⟨a2, n2, c2, rfl⟩ : ∃ a2 n2 c2, v' = .slice a2 n2 c2 := by
  rcases ho2.cases with ⟨hv, _⟩ | ⟨g, cap, cur, hv, _⟩
  ·exact ⟨_, _, _, hv⟩
  ·exact ⟨_, _, _, hv⟩
 clear ho2 hk2 hB hK c1 H1 H3 HS HN HL1
 go_wp2
 go_ret2
 exact ⟨rfl, HB.out, HK2.out⟩
theorem src_str (x : ByteArray) (w : World) : Src Tryz.prog encU8.k 9 (.string x) x.data.toList.length (x.data.toList.flatMap encU8.enc) w := by
 have h := Src.ofString (P := Tryz.prog) w (tx := 9) Tryz.underlying9 x
 have e1 : x.data.toList.length = x.size := len_data x
 have e2 : x.data.toList.flatMap encU8.enc = byteCells x := by
  unfold byteCells encU8
  generalize x.data.toList = l
  induction l with
  | nil => rfl
  | cons a l ih => simp [List.flatMap_cons, ih]
 rw [e1, e2]
 exact h
theorem sbWriteString_any (h : BA S w b s) (hS : ∀ g, w.heap.size <= g -> S g) (x : ByteArray) (hl : s.length + x.size <= 4294967296) :
 Calls Tryz.prog 53 #[.pointer (some ⟨b, 0, none⟩), .string x] w fun e w' => e = .returned (.tuple #[.int .i64 x.size, .nilIface]) ∧ BA S w' b (s ++ x.data.toList) ∧ Keeps (fun g => g = b ∨ S g) w w' := by
 have HC := Lib.hid (sbCopy_any h)
 have HN := Lib.hid h.nS
 have HS := Lib.hid hS
 have hlx : x.data.toList.length = x.size := len_data x
 clear h hS
 go_enter Tryz.func53, Tryz.ntmps53
 go_upto_region 2 with (go_at_call 83; go_loud (refine HC.out.mono ?_); rintro e w1 ⟨rfl, ⟨v, h1, h3⟩, k1⟩)
 have c1 : w1.cell? ⟨b, 1, none⟩ = some v := by rw [Lib.cell_of_heap h1]; rfl
 have hs1 := k1.size
 have H1 := Lib.hid h1
 have H3 := Lib.hid h3
 have HK := Lib.hid k1
 clear HC h1 h3 k1
 go_wp2_with (at_builtin; go_loud (refine wpl_appendS rfl (.tmp 12) (.tmp 13) rfl tU8 H3.out (src_str x w1) rfl rfl (HS.out _ (by omega)) (by rw [hlx]; simp [maxLen]; omega) (by rw [hlx]; omega) ?_))
 intro v' w2 ho2 hk2 _
 obtain ⟨d0, d1, f1, hB, hK⟩ := ba_put H1.out H3.out HN.out ho2 hk2
 have HB := Lib.hid hB
 have HK2 := Lib.hid ((HK.out.mono (F := fun g => g = b) (G := fun g => g = b ∨ S g) (fun g _ hg => .inl hg)).trans hK)
 obtain ⟨a2, n2, c2, rfl⟩ : ∃ a2 n2 c2, v' = .slice a2 n2 c2 := by
  rcases ho2.cases with ⟨hv, _⟩ | ⟨g, cap, cur, hv, _⟩
  ·exact ⟨_, _, _, hv⟩
  ·exact ⟨_, _, _, hv⟩
 clear ho2 hk2 hB hK c1 H1 H3 HS HN
 go_wp2
 go_ret2
 exact ⟨rfl, HB.out, HK2.out⟩
end
end Go.Proofs.YtonkgdoaobojbaaGreatDoor
