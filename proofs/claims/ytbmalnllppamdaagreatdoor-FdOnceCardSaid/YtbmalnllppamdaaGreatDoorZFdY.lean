/-
  Layer 7's statements: calls of tables, blocks of the law's own beside them.
-/
import Derived.Test.YtbmalnllppamdaaGreatDoorC11

set_option linter.unusedSimpArgs false
set_option linter.unusedVariables false

set_option maxRecDepth 100000
namespace Go.Proofs.YtbmalnllppamdaaGreatDoor
open Go Go.RowKit

/-- As FdX; the blocks P are the law's own. -/
structure FdY (W : World) (P : Nat → Prop) (Z : FdZ) (w : World) (F a : Nat) (d : Nds) (room calls fail : Int) : Prop where
  ex : ∃ N : Nat → Prop, (∀ g, g < W.heap.size ∨ P g → N g) ∧ FdS N Z w F a d room calls fail
  keeps : Keeps NoB W w

section
variable {W w w' : World} {P : Nat → Prop} {Z Z' : FdZ} {F a : Nat} {d d' : Nds} {room calls calls' fail : Int}

theorem FdY.call {f : Nat} {args : Array Value} {E : Ending} (h : FdY W P Z w F a d room calls fail) (hc : ∀ N : Nat → Prop, FdS N Z w F a d room calls fail → Calls Tryz.prog f args w (FdTo N Z' w F a d' room calls' fail E)) :
    Calls Tryz.prog f args w fun e w' => e = E ∧ FdY W P Z' w' F a d' room calls' fail ∧ Keeps (fun g => ¬ (g < W.heap.size ∨ P g)) w w' := by
  obtain ⟨N, h1, h2⟩ := h.ex
  refine (hc N h2).mono ?_
  rintro e w' ⟨rfl, h3, k⟩
  exact ⟨rfl, ⟨⟨N, h1, h3⟩, h.keeps.step k (fun g hg => .inr (Nat.le_of_not_lt fun hl => hg (h1 g (.inl hl))))⟩, k.mono (fun g _ hg hn => hg (h1 g hn))⟩

theorem FdY.callE {f : Nat} {args : Array Value} {E : Ending} {Zb : Nat → FdZ} {db : Nat → Nds} (h : FdY W P Z w F a d room calls fail)
    (hc : ∀ N : Nat → Prop, FdS N Z w F a d room calls fail → Calls Tryz.prog f args w fun e w' => ∃ b, w.heap.size ≤ b ∧ FdTo N (Zb b) w F a (db b) room calls' fail E e w') :
    Calls Tryz.prog f args w fun e w' => ∃ b, w.heap.size ≤ b ∧ e = E ∧ FdY W P (Zb b) w' F a (db b) room calls' fail ∧ Keeps (fun g => ¬ (g < W.heap.size ∨ P g)) w w' := by
  obtain ⟨N, h1, h2⟩ := h.ex
  refine (hc N h2).mono ?_
  rintro e w' ⟨b, hb, rfl, h3, k⟩
  exact ⟨b, hb, rfl, ⟨⟨N, h1, h3⟩, h.keeps.step k (fun g hg => .inr (Nat.le_of_not_lt fun hl => hg (h1 g (.inl hl))))⟩, k.mono (fun g _ hg hn => hg (h1 g hn))⟩

theorem FdY.asks {f : Nat} {args : Array Value} {Q : Ending → World → Prop} (h : FdY W P Z w F a d room calls fail) (hc : ∀ N : Nat → Prop, FdS N Z w F a d room calls fail → Calls Tryz.prog f args w Q) : Calls Tryz.prog f args w Q := by
  obtain ⟨N, _, h2⟩ := h.ex
  exact hc N h2
theorem FdY.on (h : FdY W P Z w F a d room calls fail) (k : Keeps NoB w w') : FdY W P Z w' F a d room calls fail := by
  obtain ⟨N, h1, h2⟩ := h.ex
  exact ⟨⟨N, h1, h2.on k⟩, h.keeps.trans k⟩
end
end Go.Proofs.YtbmalnllppamdaaGreatDoor
