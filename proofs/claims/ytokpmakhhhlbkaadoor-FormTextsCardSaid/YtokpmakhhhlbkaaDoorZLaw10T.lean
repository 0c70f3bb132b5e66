/-
  Layer 10: the walk of FormTexts.
-/
import Derived.Test.YtokpmakhhhlbkaaDoorZFormE2

set_option linter.unusedSimpArgs false
set_option linter.unusedVariables false

set_option maxRecDepth 100000
set_option maxHeartbeats 8000000
namespace Go.Proofs.YtokpmakhhhlbkaaDoor
open Go Go.RowKit

/-- The format of texts, each with these bytes behind it; what is wanted. -/
def txF (b : List UInt8) (n : Nat) : List UInt8 := (List.replicate n ([37, 115] ++ escL b)).flatten
def txO (b : List UInt8) (l : List ByteArray) : List UInt8 := l.flatMap fun s => s.data.toList ++ b

theorem txF_succ (b : List UInt8) (n : Nat) : txF b (n + 1) = txF b n ++ ([37, 115] ++ escL b) := by
  unfold txF
  rw [List.replicate_succ', List.flatten_append]
  simp
theorem txF_cons (b : List UInt8) (n : Nat) : txF b (n + 1) = [37, 115] ++ (escL b ++ txF b n) := by
  unfold txF
  rw [List.replicate_succ, List.flatten_cons, List.append_assoc]
theorem txF_len (b : List UInt8) : ∀ n, (txF b n).length = n * ((escL b).length + 2)
  | 0 => by simp [txF]
  | n + 1 => by rw [txF_succ, List.length_append, txF_len b n, Nat.succ_mul]; simp
theorem padL_zero (l : List UInt8) : padL false 0 l = l := by unfold padL; rw [if_pos (by omega)]

theorem onc_txts {f : ByteArray} {args : List ByteArray} {b : List UInt8} (hs : ∀ s ∈ args, s.size ≤ 1000) (hf : f.size ≤ 1000000000) :
    ∀ (k i u : Nat), u + k = args.length → i ≤ f.size → f.data.toList.drop i = txF b k → Onc f args i u (txO b (args.drop u)) (u + k)
  | 0, i, u, h, hi, hd => by
    have hl : f.data.toList.length = f.size := len_data f
    have := congrArg List.length hd
    rw [List.length_drop, hl] at this
    simp [txF] at this
    obtain rfl : i = f.size := by omega
    rw [List.drop_of_length_le (by omega)]
    exact Onc.done
  | k + 1, i, u, h, hi, hd => by
    rw [txF_cons] at hd
    have hu : u < args.length := by omega
    obtain ⟨h1, h2, h3⟩ := at_drop hd
    obtain ⟨h4, _, h5⟩ := at_drop h3
    replace h5 : f.data.toList.drop (i + 1 + 1) = escL b ++ txF b k := h5
    have hl : f.data.toList.length = f.size := len_data f
    have hlen := congrArg List.length h5
    rw [List.length_drop, hl, List.length_append] at hlen
    have hrest : f.data.toList.drop (f.size - (txF b k).length) = txF b k := by
      have : f.size - (txF b k).length = (i + 2) + (escL b).length := by omega
      rw [this, ← List.drop_drop, show i + 2 = i + 1 + 1 from rfl, h5, List.drop_left]
    have ih := onc_txts (b := b) hs hf k (f.size - (txF b k).length) (u + 1) (by omega) (Nat.sub_le _ _) hrest
    have hp := onc_esc (rest := txF b k) ih b (i + 1 + 1) (by omega) h5
    have hput : PutsTo ⟨false, false, 0, -1, 115⟩ (args.getD u ⟨#[]⟩) (args[u]).data.toList := by
      have hsz := hs args[u] (List.getElem_mem hu)
      have := put_str ⟨false, false, 0, -1, 115⟩ args[u] rfl rfl (by show (0 : Int) ≤ _; decide) (by show (0 : Int) ≤ 0; decide) (by omega)
      rw [padL_zero] at this
      rw [List.getD_eq_getElem?_getD, List.getElem?_eq_getElem hu]
      exact this
    have hr : ReadsTo (f.extract (i + 1) f.size) ⟨false, false, 0, -1, 115⟩ 1 :=
      reads_of (f.extract (i + 1) f.size) [] [] (escL b ++ txF b k) 115 (by rw [ByteArray.size_extract]; omega) (by rw [sub_list, h3]; rfl) (by simp) (by simp) (by simp) (by simp) (by decide) (by decide) (by decide) (by decide +kernel)
    have := Onc.place (t := (args[u]).data.toList) h1 h2 hr (by omega) (by show (115 : UInt8) ≠ 37; decide) hput hp
    rw [show u + (k + 1) = u + 1 + k by omega, List.drop_eq_getElem_cons hu]
    unfold txO at this ⊢
    rw [List.flatMap_cons, List.append_assoc]
    exact this

end Go.Proofs.YtokpmakhhhlbkaaDoor
