/-
  An argument that is a slice of integers, opened.
-/
import Derived.Test.YtjgapldpfdhioaaDoorB01

set_option linter.unusedSimpArgs false
set_option linter.unusedVariables false

set_option maxRecDepth 100000
namespace Go.Proofs.YtjgapldpfdhioaaDoor
open Go.RowKit

section
variable {H : Type} {enc : TypeId × Value → H} {P : Program} {W : World}
/-- A slice of integers. -/
theorem open_ints_sl {t e : TypeId} {p : Option Addr} {len cap : Nat} {d : DataW H} {ps : List MemPlace} (ht : P.underlying t = some (.slice e)) (he : P.underlying e = some (.int .i64)) (hC : P.cellsOf e = 1)
    (h : DataW.Trod enc P W 0 (fun _ => true) true t (.slice p len cap) d ps) :
    ∃ l : List Int, len = l.length ∧ SlAt encInt (fun g => g < W.heap.size) W p cap l ∧ ∀ x ∈ l, True := by
  refine open_sl encInt (good := fun _ => True) ht hC h fun n cs y hl hy => ?_
  match cs, hl with
  | [v], _ =>
    obtain ⟨x, hx, _, _⟩ := DataW.trod_int he hy
    exact ⟨x, hx.symm, trivial⟩
end
end Go.Proofs.YtjgapldpfdhioaaDoor
