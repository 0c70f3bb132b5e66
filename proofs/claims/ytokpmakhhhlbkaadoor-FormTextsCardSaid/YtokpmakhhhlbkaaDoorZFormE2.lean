/-
  Layer 10: plain laws: a text alone in its place.
-/
import Derived.Test.YtokpmakhhhlbkaaDoorZFormE

set_option linter.unusedSimpArgs false
set_option linter.unusedVariables false

set_option maxRecDepth 100000
set_option maxHeartbeats 4000000
namespace Go.Proofs.YtokpmakhhhlbkaaDoor
open Go Go.RowKit

def wD (n : Nat) : List UInt8 := [UInt8.ofNat (48 + n / 100), UInt8.ofNat (48 + n / 10 % 10), UInt8.ofNat (48 + n % 10)]
def wZ (n : Nat) : List UInt8 := (wD n).takeWhile (· == 48)
def wN (n : Nat) : List UInt8 := (wD n).dropWhile (· == 48)
theorem wD_split (n : Nat) : wD n = wZ n ++ wN n := (List.takeWhile_append_dropWhile).symm
theorem wN_facts : ∀ n : Fin 1000, (wN n.val).all isDig = true ∧ digV (wN n.val) = n.val ∧ ((wN n.val).head? == some 48) = false ∧ (wZ n.val).all (· == 48) = true ∧ hasL (wZ n.val) = false ∧ hasL (45 :: wZ n.val) = true ∧ (wN n.val).length ≤ 3 ∧
    (UInt8.ofNat (48 + n.val / 100)).toNat = 48 + n.val / 100 ∧ (UInt8.ofNat (48 + n.val / 10 % 10)).toNat = 48 + n.val / 10 % 10 ∧ (UInt8.ofNat (48 + n.val % 10)).toNat = 48 + n.val % 10 := by decide +kernel

theorem wid_onc {f s : ByteArray} {fl ds : List UInt8} (hf : f.data.toList = 37 :: (fl ++ (ds ++ [115]))) (hfl : ∀ c ∈ fl, c = 45 ∨ c = 48) (h3 : ds.length ≤ 3) (hl : fl.length ≤ 10) (hd : ∀ c ∈ ds, isDig c = true) (h0 : ∀ c, ds.head? = some c → c ≠ 48) (hs : s.size ≤ 1000) (hn : digV ds < 1000) :
    Onc f [s] 0 0 (padL (hasL fl) (digV ds) s.data.toList) 1 := by
  have hsz : f.size = fl.length + ds.length + 2 := by
    have := congrArg List.length hf
    rw [len_data] at this
    simp at this
    omega
  obtain ⟨a1, a2, a3⟩ := at_drop (f := f) (i := 0) (by rw [List.drop_zero]; exact hf)
  have h := Onc.place (f := f) (args := [s]) (i := 0) (u := 0) (U := 1) (n := fl.length + ds.length + 1) (p := Sp.mk (hasL fl) (hasZ fl) (digV ds) (-1) 115) (t := padL (hasL fl) (digV ds) s.data.toList) (O := []) a1 a2
    (reads_of (f.extract 1 f.size) fl ds [] 115 (by rw [ByteArray.size_extract]; omega) (by rw [sub_list]; exact a3) hfl h3 hd h0 (by decide) (by decide) (by decide) (by decide +kernel)) (by omega) (by show (115 : UInt8) ≠ 37; decide)
    (put_str _ s rfl rfl (by show ((digV ds : Nat) : Int) ≤ _; omega) (by show (0 : Int) ≤ ((digV ds : Nat) : Int); omega) (by omega)) (by rw [show 0 + (fl.length + ds.length + 1) + 1 = f.size by omega]; exact Onc.done)
  rw [List.append_nil] at h
  exact h

theorem wid_all (left : Bool) (n : Nat) (hn : n < 1000) (s f : ByteArray) (hs : s.size ≤ 1000) (hf : f.data.toList = 37 :: ((if left then [45] else []) ++ wD n ++ [115])) :
    Onc f [s] 0 0 (padL left n s.data.toList) 1 := by
  obtain ⟨f1, f2, f3, f4, f5, f6, f7, -⟩ := wN_facts ⟨n, hn⟩
  simp only at f1 f2 f3 f4 f5 f6 f7
  have hz : ∀ c ∈ wZ n, c = 48 := fun c hc => by have := List.all_eq_true.1 f4 c hc; simpa using this
  have hd : ∀ c ∈ wN n, isDig c = true := List.all_eq_true.1 f1
  have hh : ∀ c, (wN n).head? = some c → c ≠ 48 := fun c hc e => by rw [hc, e] at f3; simp at f3
  have hzl : (wZ n).length ≤ 3 := by
    have := congrArg List.length (wD_split n)
    rw [List.length_append] at this
    have h3 : (wD n).length = 3 := rfl
    omega
  cases left with
  | true =>
    have := wid_onc (f := f) (s := s) (fl := 45 :: wZ n) (ds := wN n) (by rw [hf, wD_split]; simp) (fun c hc => by rcases List.mem_cons.1 hc with h | h; exact .inl h; exact .inr (hz c h)) f7 (by rw [List.length_cons]; omega) hd hh hs (by omega)
    rw [f6, f2] at this
    exact this
  | false =>
    have := wid_onc (f := f) (s := s) (fl := wZ n) (ds := wN n) (by rw [hf, wD_split]; simp) (fun c hc => .inr (hz c hc)) f7 (by omega) hd hh hs (by omega)
    rw [f5, f2] at this
    exact this

theorem padL_len (left : Bool) (n : Nat) (l : List UInt8) : (padL left n l).length = max n l.length := by
  unfold padL
  by_cases h : (n : Int) ≤ (l.length : Int)
  · rw [if_pos h]; omega
  · rw [if_neg h]
    cases left
    · simp; omega
    · simp; omega
theorem padL_take (n : Nat) (l : List UInt8) : (padL true n l).take l.length = l := by
  unfold padL
  by_cases h : (n : Int) ≤ (l.length : Int)
  · rw [if_pos h]; simp
  · rw [if_neg h]; simp
theorem padL_drop (n : Nat) (l : List UInt8) : (padL false n l).drop (max n l.length - l.length) = l := by
  unfold padL
  by_cases h : (n : Int) ≤ (l.length : Int)
  · rw [if_pos h, show max n l.length - l.length = 0 by omega]; rfl
  · rw [if_neg h]
    simp only [Bool.false_eq_true, if_false]
    rw [List.drop_append_of_le_length (by simp; omega), List.drop_of_length_le (by simp; omega)]
    rfl

end Go.Proofs.YtokpmakhhhlbkaaDoor
