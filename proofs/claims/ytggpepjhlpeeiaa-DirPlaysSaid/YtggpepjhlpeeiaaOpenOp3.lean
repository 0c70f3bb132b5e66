/-
  The calls of DirPlays, opened.
-/
import Derived.Test.YtggpepjhlpeeiaaOpen
import Derived.Test.YtggpepjhlpeeiaaLaw3e
namespace Go.Proofs.Ytggpepjhlpeeiaa
open Go.RowKit Go.ChangeShapes Go.WideShapes Go.ChangeAt

theorem cells_int : Try.prog.cellsOf 3 = 1 := by kernel_rfl
theorem cells_string : Try.prog.cellsOf 9 = 1 := by kernel_rfl

theorem open_ops3 {H : Type} {enc : TypeId × Value → H} {W : World} {p : Option Addr} {len cap : Nat} {d : DataW H} {ps : List MemPlace}
    (h : DataW.Trod enc Try.prog W 0 (fun _ => true) true 38 (.slice p len cap) d ps) :
    ∃ l : List OpD, len = l.length ∧ SlAt encOp (fun g => g < W.heap.size) W p cap l ∧ ∀ o ∈ l, o.2.1.size ≤ maxLen := by
  refine open_sl encOp Try.underlying38 (by kernel_rfl) h fun n cs y hl hy => ?_
  match cs, hl with
  | [v0, v1, v2], _ =>
    obtain ⟨xs, n', _, _, _, hlen, hf⟩ := DataW.trod_struct Try.underlying41 hy
    match xs, hlen with
    | [y0, y1, y2], _ =>
      have h0 := hf 0 _ rfl
      have h1 := hf 1 _ rfl
      have h2 := hf 2 _ rfl
      simp only [List.getElem_toArray, List.getElem_cons_zero, List.getElem_cons_succ, cells_int, cells_string, List.drop_zero, List.drop_succ_cons, List.take_succ_cons, List.take_zero] at h0 h1 h2
      obtain ⟨a, ha, _, _⟩ := DataW.trod_int Try.underlying3 h0
      obtain ⟨b, hb, _, hz⟩ := DataW.trod_string Try.underlying9 h1
      obtain ⟨c, hc, _, _⟩ := DataW.trod_int Try.underlying3 h2
      simp only [List.cons.injEq, and_true] at ha hb hc
      subst ha hb hc
      exact ⟨(a, b, c), rfl, hz⟩

end Go.Proofs.Ytggpepjhlpeeiaa
