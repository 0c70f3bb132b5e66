/-
  Layer 7's statements: what they begin with.
-/
import Derived.Test.YtbmalnllppamdaaGreatDoorC11
import Derived.Test.YtbmalnllppamdaaGreatDoorZFdR
import Derived.Test.YtbmalnllppamdaaGreatDoorZRef7A

set_option linter.unusedSimpArgs false
set_option linter.unusedVariables false

set_option maxRecDepth 100000
set_option maxHeartbeats 4000000
namespace Go.Proofs.YtbmalnllppamdaaGreatDoor
open Go Go.RowKit

theorem user7_any (w : World) : Calls Tryz.prog 13 #[] w fun e w' => e = .returned (.agg #[.int .i64 1, .int .i64 18]) ∧ Keeps NoB w w' := by
  go_enter Tryz.func13, Tryz.ntmps13
  go_wp2
  refine bodyPost_ret (v := .agg #[.int .i64 1, .int .i64 18]) ?_ rfl ⟨rfl, (Keeps.refl _ _).alloc _⟩
  rw [results_cell_one rfl]
  go_simp

/-- Cells laid one by one. -/
theorem fold_set (n : Nat) : ∀ (l : List Value) (k : Nat) (A : Array Value), n + k + l.length ≤ A.size → ((l.zipIdx k).foldl (fun (cs : Array Value) x => cs.setIfInBounds (n + x.2) x.1) A).toList = A.toList.take (n + k) ++ l ++ A.toList.drop (n + k + l.length)
  | [], k, A, _ => by simp
  | x :: l, k, A, h => by
    have hl : (x :: l).length = l.length + 1 := rfl
    rw [List.zipIdx_cons, List.foldl_cons, fold_set n l (k + 1) _ (by rw [Array.size_setIfInBounds]; omega), hl]
    have e1 : (A.setIfInBounds (n + k) x).toList = A.toList.set (n + k) x := by simp
    have hs : n + k < A.toList.length := by simp; omega
    rw [e1, List.drop_set_of_lt (by omega), show n + (k + 1) = (n + k) + 1 by omega, List.take_add_one, List.take_set_of_le (Nat.le_refl _), List.getElem?_set_self hs]
    simp only [Option.toList_some, List.append_assoc, List.cons_append, List.nil_append]
    rw [show n + k + 1 + l.length = n + k + (l.length + 1) by omega]

theorem side_cells (F : Nat) {L : List Value} (hl : L.length = 133) :
    (List.foldl (fun (cs : Array Value) x => cs.setIfInBounds (3 + x.2) x.1) (Tryz.zeroCells40.setIfInBounds 0 (.pointer (some ⟨F, 0, none⟩))) L.zipIdx).toList = [.pointer (some ⟨F, 0, none⟩), .pointer none, .pointer none] ++ L := by
  have hz : (Tryz.zeroCells40.setIfInBounds 0 (.pointer (some ⟨F, 0, none⟩))).size = 136 := by rw [Array.size_setIfInBounds]; rfl
  have h := fold_set 3 L 0 (Tryz.zeroCells40.setIfInBounds 0 (.pointer (some ⟨F, 0, none⟩))) (by omega)
  rw [h, List.drop_of_length_le (by rw [Array.length_toList]; omega), List.append_nil]
  rfl

end Go.Proofs.YtbmalnllppamdaaGreatDoor
