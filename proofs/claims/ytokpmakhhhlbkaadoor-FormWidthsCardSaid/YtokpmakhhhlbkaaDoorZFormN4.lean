/-
  Layer 10: the document's example.
-/
import Derived.Test.YtokpmakhhhlbkaaDoorZFormN3
import Derived.Test.YtokpmakhhhlbkaaDoorZFormF
import Derived.Test.YtokpmakhhhlbkaaDoorZFormR

set_option linter.unusedSimpArgs false
set_option linter.unusedVariables false

set_option maxRecDepth 100000
set_option maxHeartbeats 8000000
namespace Go.Proofs.YtokpmakhhhlbkaaDoor
open Go Go.RowKit

theorem reads_of (s : ByteArray) (fl ds rest : List UInt8) (k : UInt8) (hs : s.size ≤ 1000000000) (hl : s.data.toList = fl ++ (ds ++ k :: rest)) (hf : ∀ c ∈ fl, c = 45 ∨ c = 48) (h3 : ds.length ≤ 3) (hd : ∀ c ∈ ds, isDig c = true) (h0 : ∀ c, ds.head? = some c → c ≠ 48)
    (hk : isDig k = false) (hk2 : k ≠ 45) (hk3 : k ≠ 46) (hix : 0 ≤ bIdx ⟨#[37, 115, 98, 99, 100, 105, 111, 117, 120, 88]⟩ k) : ReadsTo s (Sp.mk (hasL fl) (hasZ fl) (digV ds) (-1) k) (fl.length + ds.length + 1) :=
  fun w => read_flags s fl ds rest k w hs hl hf h3 hd h0 hk hk2 hk3 hix

def ancF : ByteArray := ⟨#[37, 51, 100, 124, 37, 45, 52, 115, 124, 37, 111]⟩
def ancA : List ByteArray := [⟨#[55]⟩, ⟨#[97, 98]⟩, ⟨#[56]⟩]

theorem anc_onc : Onc ancF ancA 0 0 [32, 32, 55, 124, 97, 98, 32, 32, 124, 49, 48] 3 := by
  refine Onc.place (n := 2) (p := ⟨false, false, 3, -1, 100⟩) (t := [32, 32, 55]) (O := [124, 97, 98, 32, 32, 124, 49, 48]) (by decide +kernel) rfl ?_ (by decide +kernel) (by decide) puts_d ?_
  · exact reads_of (ancF.extract 1 11) [] [51] [124, 37, 45, 52, 115, 124, 37, 111] 100 (by decide +kernel) rfl (by decide) (by decide) (by decide) (by decide) (by decide) (by decide) (by decide) (by decide +kernel)
  refine Onc.lit (c := 124) (by decide +kernel) rfl (by decide) (by decide) ?_
  refine Onc.place (n := 3) (p := ⟨true, false, 4, -1, 115⟩) (t := [97, 98, 32, 32]) (O := [124, 49, 48]) (by decide +kernel) rfl ?_ (by decide +kernel) (by decide) ?_ ?_
  · exact reads_of (ancF.extract 5 11) [45] [52] [124, 37, 111] 115 (by decide +kernel) rfl (by decide) (by decide) (by decide) (by decide) (by decide) (by decide) (by decide) (by decide +kernel)
  · exact put_str ⟨true, false, 4, -1, 115⟩ ⟨#[97, 98]⟩ rfl rfl (by show (4 : Int) ≤ _; decide) (by show (0 : Int) ≤ 4; decide) (by show 2 ≤ _; decide)
  refine Onc.lit (c := 124) (by decide +kernel) rfl (by decide) (by decide) ?_
  refine Onc.place (n := 1) (p := ⟨false, false, 0, -1, 111⟩) (t := [49, 48]) (O := []) (by decide +kernel) rfl ?_ (by decide +kernel) (by decide) puts_o ?_
  · exact reads_of (ancF.extract 10 11) [] [] [] 111 (by decide +kernel) rfl (by decide) (by decide) (by decide) (by decide) (by decide) (by decide) (by decide) (by decide +kernel)
  exact Onc.done

/-- A row of texts that a literal lays. -/
theorem sl_new (w : World) (l : List ByteArray) (T : TypeId) (h1 : 1 ≤ l.length) (h2 : l.length ≤ 1000) :
    SlAt encStr (fun g => g = w.heap.size) (w.alloc (.cells (l.map Value.string).toArray T)) (some ⟨w.heap.size, 0, none⟩) l.length l := by
  refine ⟨Nat.le_refl _, by unfold maxLen; omega, (fun h => by cases h), (fun _ a ha => by cases ha; rfl), fun _ => ⟨w.heap.size, 0, rfl, rfl, by simp, fun j hj => ?_⟩⟩
  have hB := Bk.new (Keeps.refl NoB (w.alloc (.cells (l.map Value.string).toArray T)))
  have hj2 : j < l.length := by simpa [encStr] using hj
  have := Enc.flat_get encStr l j 0 (by decide)
  simp only [show encStr.k = 1 from rfl, Nat.mul_one, Nat.add_zero] at this
  rw [Nat.zero_add, this, List.getElem?_eq_getElem hj2]
  refine hB.cell j _ ?_
  simp [List.getElem?_eq_getElem hj2, encStr]

theorem anchor10_any (w : World) (hdb : DbOk w) : Calls Tryd.prog 6 #[] w fun e w' => e = .returned (.bool true) ∧ Keeps NoB w w' := by
  have HF := Lib.hid (format_fok (sl_new w ancA 9 (by decide) (by decide)) anc_onc (by decide +kernel) (by decide) (.inr (by decide)) (by decide) (hdb.on ((Keeps.refl _ _).alloc _)))
  clear hdb
  go_enter Tryd.func6, Tryd.ntmps6
  go_wp2_with (go_at_call 7; go_loud (refine HF.out.mono ?_); rintro e w4 ⟨rfl, hk4⟩)
  go_ret
  exact ⟨rfl, ((Keeps.refl _ _).alloc _).trans hk4⟩

end Go.Proofs.YtokpmakhhhlbkaaDoor
