/-
  Layer 10, plain: bytes that stand for themselves, bytes behind backslashes. No program in sight.
-/
import Derived.Test.YtokpmakhhhlbkaaDoorB01
import Derived.Test.YtokpmakhhhlbkaaDoorB23

set_option linter.unusedSimpArgs false
set_option linter.unusedVariables false

set_option maxRecDepth 100000
namespace Go.Proofs.YtokpmakhhhlbkaaDoor

/-- Does a byte stand for itself? -/
def plnB (z : Int) : Bool := decide (32 ≤ z) && decide (z ≤ 126) && !decide (z = 37) && !decide (z = 92) && !decide (z = 39)
def plnC (c : UInt8) : Bool := plnB (c.toNat : Int)

/-- A byte in a format that tells it. -/
def escC (c : UInt8) : List UInt8 := if plnC c then [c] else [92, 48 + c / 64, 48 + c / 8 % 8, 48 + c % 8]
def escL (l : List UInt8) : List UInt8 := l.flatMap escC

theorem escC_len (c : UInt8) : (escC c).length = if plnC c then 1 else 4 := by unfold escC; split <;> rfl
theorem escL_le : ∀ l : List UInt8, (escL l).length ≤ 4 * l.length
  | [] => Nat.le_refl _
  | c :: l => by
    have h1 := escL_le l
    have h2 := escC_len c
    unfold escL at *
    rw [List.flatMap_cons, List.length_append, h2, List.length_cons]
    split <;> omega
theorem escL_snoc (l : List UInt8) (c : UInt8) : escL (l ++ [c]) = escL l ++ escC c := by unfold escL; simp
theorem take_next {l : List UInt8} {k : Nat} {c : UInt8} (h : l[k]? = some c) : l.take (k + 1) = l.take k ++ [c] := by
  obtain ⟨h1, h2⟩ := List.getElem?_eq_some_iff.1 h
  rw [List.take_succ_eq_append_getElem h1, h2]

/-- A letter's byte behind a backslash. -/
def lettC (c : UInt8) : Option UInt8 :=
  if c = 92 then some 92 else if c = 97 then some 7 else if c = 98 then some 8 else if c = 102 then some 12 else if c = 110 then some 10 else if c = 114 then some 13 else if c = 116 then some 9 else if c = 118 then some 11 else none
def isOct (c : UInt8) : Bool := decide (48 ≤ (c.toNat : Int)) && decide ((c.toNat : Int) ≤ 55)
/-- The octal digits ahead, three at most; their value. -/
def octN (l : List UInt8) : Nat := ((l.take 3).takeWhile isOct).length
def octV (l : List UInt8) : Nat := l.foldl (fun v c => 8 * v + (c.toNat - 48)) 0
/-- What stands behind a backslash: a byte, and how many bytes tell it. -/
def escR : List UInt8 → UInt8 × Nat
  | [] => (0, 0)
  | c :: l => match lettC c with
    | some v => (v, 1)
    | none => (UInt8.ofNat (octV ((c :: l).take (octN (c :: l)))), octN (c :: l))

end Go.Proofs.YtokpmakhhhlbkaaDoor
