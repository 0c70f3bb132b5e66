/-
  The calls of layer 4's statements, opened.
-/
import Derived.Test.YtbcejodnjeklpaaOpen
import Derived.Test.YtbcejodnjeklpaaLaw4
namespace Go.Proofs.Ytbcejodnjeklpaa
open Go.RowKit Go.ChangeShapes Go.WideShapes Go.ChangeAt

theorem cells_int : Try.prog.cellsOf 3 = 1 := by kernel_rfl
theorem cells_string : Try.prog.cellsOf 9 = 1 := by kernel_rfl

theorem open_ops4 {H : Type} {enc : TypeId × Value → H} {W : World} {p : Option Addr} {len cap : Nat} {d : DataW H} {ps : List MemPlace}
    (h : DataW.Trod enc Try.prog W 0 (fun _ => true) true 22 (.slice p len cap) d ps) :
    ∃ l : List Op4, len = l.length ∧ SlAt encOp4 (fun g => g < W.heap.size) W p cap l ∧ ∀ o ∈ l, (o.s.size ≤ maxLen ∧ o.t.size ≤ maxLen) ∧ ((Lit.int .i64 o.kind).wf = true ∧ (Lit.int .i64 o.a).wf = true ∧ (Lit.int .i64 o.b).wf = true) := by
  refine open_sl encOp4 Try.underlying22 (by kernel_rfl) h fun n cs y hl hy => ?_
  match cs, hl with
  | [v0, v1, v2, v3, v4], _ =>
    obtain ⟨xs, n', _, _, _, hlen, hf⟩ := DataW.trod_struct Try.underlying31 hy
    match xs, hlen with
    | [y0, y1, y2, y3, y4], _ =>
      have h0 := hf 0 _ rfl
      have h1 := hf 1 _ rfl
      have h2 := hf 2 _ rfl
      have h3 := hf 3 _ rfl
      have h4 := hf 4 _ rfl
      simp only [List.getElem_toArray, List.getElem_cons_zero, List.getElem_cons_succ, cells_int, cells_string, List.drop_zero, List.drop_succ_cons, List.take_succ_cons, List.take_zero] at h0 h1 h2 h3 h4
      obtain ⟨a, ha, _, wa⟩ := DataW.trod_int Try.underlying3 h0
      obtain ⟨b, hb, _, wb⟩ := DataW.trod_int Try.underlying3 h1
      obtain ⟨c, hc, _, wc⟩ := DataW.trod_int Try.underlying3 h2
      obtain ⟨s, hs, _, zs⟩ := DataW.trod_string Try.underlying9 h3
      obtain ⟨t, ht, _, zt⟩ := DataW.trod_string Try.underlying9 h4
      simp only [List.cons.injEq, and_true] at ha hb hc hs ht
      subst ha hb hc hs ht
      exact ⟨⟨a, b, c, s, t⟩, rfl, ⟨zs, zt⟩, wa, wb, wc⟩

end Go.Proofs.Ytbcejodnjeklpaa
