/-
  Layer 10: what the listed tables say of the one cell that the example reads.
-/
import Derived.Test.YtokpmakhhhlbkaaDoorZFormO
import Derived.Test.YtokpmakhhhlbkaaDoorRows
import Derived.LaidSub
import Derived.OpenShut

set_option linter.unusedSimpArgs false
set_option linter.unusedVariables false

set_option maxRecDepth 100000
namespace Go.Proofs.YtokpmakhhhlbkaaDoor
open Go Go.RowKit

theorem fint_of_trod {H : Type} {enc : TypeId × Value → H} {P : Program} {w : World} {base : Nat} {sp : Nat → Bool} {held : Bool} {fuel : Nat} {t : TypeId} {k : IntKind} {c : Value} {y : DataW H × List MemPlace}
    (ht : P.underlying t = some (.int k)) (h : DataW.trod enc P w base sp held fuel t [c] = some y) : ∃ n, c = .int k n ∧ y = (.lit (.int k n), []) := by
  cases fuel with
  | zero => simp [DataW.trod] at h
  | succ fuel =>
    cases c <;> simp [DataW.trod, ht] at h
    rename_i k' n
    obtain ⟨⟨rfl, _⟩, rfl⟩ := h
    exact ⟨n, rfl, rfl⟩

theorem dbOk_of {W : World} (h : laidMet Tryd.prog [("math/bits.deBruijn64tab", Rows.laid_math_bits_deBruijn64tab)] W) : DbOk W := by
  obtain ⟨ps, ⟨g, t, cs, fuel, p, q, hg, ht, hvar, hd, _, _⟩, _⟩ := h
  obtain rfl : 8 = g := Option.some.inj ((show Tryd.prog.globalNamed "math/bits.deBruijn64tab" = some 8 by kernel_rfl).symm.trans hg)
  obtain rfl : 129 = t := Option.some.inj ((show (Tryd.prog.globals[8]?).map (·.type) = some 129 by kernel_rfl).symm.trans ht)
  obtain ⟨xs, m, rfl, hx, hlen, hxl, hat⟩ := DataW.trod_array (show Tryd.prog.underlying 129 = some (.array 64 5) by kernel_rfl) hd
  have h7 := hat 7 (by decide)
  rw [show Tryd.prog.cellsOf 5 = 1 by kernel_rfl] at h7
  rw [show Tryd.prog.cellsOf 129 = 64 by kernel_rfl] at hlen
  have hc7 : 7 < cs.toList.length := by omega
  have hx7 : 7 < xs.length := by omega
  rw [show 7 * 1 = 7 from rfl, List.drop_eq_getElem_cons hc7, List.take_succ_cons, List.take_zero, List.getElem?_eq_getElem hx7] at h7
  obtain ⟨n, hn, hy⟩ := fint_of_trod (show Tryd.prog.underlying 5 = some (.int .u8) by kernel_rfl) h7
  have h1 := congrArg Prod.fst hx
  simp only [Rows.laid_math_bits_deBruijn64tab] at h1
  injection h1 with h1
  have h2 := congrArg (fun l => l[7]?) h1
  simp only [List.getElem?_map, List.getElem?_eq_getElem hx7, hy, Option.map_some] at h2
  have h3 : n = 3 := by
    have := Option.some.inj h2
    injection this with this
    injection this with _ this
    exact this.symm
  unfold DbOk
  rw [World.var?_cell (show Tryd.prog.globalNamed "math/bits.deBruijn64tab" = some 8 by kernel_rfl) hvar 7, ← Array.getElem?_toList, List.getElem?_eq_getElem hc7, hn, h3]

end Go.Proofs.YtokpmakhhhlbkaaDoor
