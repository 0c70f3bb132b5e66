/-
  What layer 22's statements are given, opened; what the listed tables say of the powers of ten.
-/
import Derived.Test.YtkdfgkbojbdelaaGreatDoorG03
import Derived.Test.YtkdfgkbojbdelaaGreatDoorG02
import Derived.Test.YtkdfgkbojbdelaaGreatDoorRows
import Derived.LaidSub
import Derived.OpenShut
import Derived.Lib.LaidTab

set_option linter.unusedSimpArgs false
set_option linter.unusedVariables false
set_option maxRecDepth 100000
namespace Go.Proofs.YtkdfgkbojbdelaaGreatDoor
open Go.RowKit Go.ChangeShapes Go.WideShapes Go.ChangeAt
theorem cells_int22 : Tryz.prog.cellsOf 3 = 1 := by kernel_rfl
theorem cells_string22 : Tryz.prog.cellsOf 9 = 1 := by kernel_rfl
theorem cells_row22 : Tryz.prog.cellsOf 23 = 1 := by kernel_rfl
theorem cells_in22 : Tryz.prog.cellsOf 25 = 3 := by kernel_rfl
theorem open_f22 {H : Type} {enc : TypeId × Value -> H} {W : World} {p : Option Addr} {len cap : Nat} {d : DataW H} {ps : List MemPlace}
 (h : DataW.Trod enc Tryz.prog W 0 (fun _ => true) true 23 (.slice p len cap) d ps) :
 ∃ l : List F22, len = l.length ∧ SlAt encF22 (fun g => g < W.heap.size) W p cap l := by
 obtain ⟨l, h1, h2, _⟩ := open_sl (good := fun _ => True) encF22 Tryz.underlying23 (by kernel_rfl) h fun n cs y hl hy => by
  match cs, hl with
  | [v0, v1, v2], _ =>
    obtain ⟨xs, n', _, _, _, hlen, hf⟩ := DataW.trod_struct Tryz.underlying36 hy
    match xs, hlen with
    | [y0, y1, y2], _ =>
      have h0 := hf 0 _ rfl
      have h1 := hf 1 _ rfl
      have h2 := hf 2 _ rfl
      simp only [List.getElem_toArray, List.getElem_cons_zero, List.getElem_cons_succ, cells_int22, cells_string22, List.drop_zero, List.drop_succ_cons, List.take_succ_cons, List.take_zero] at h0 h1 h2
      obtain ⟨a, ha, _, _⟩ := DataW.trod_string Tryz.underlying9 h0
      obtain ⟨b, hb, _, _⟩ := DataW.trod_string Tryz.underlying9 h1
      obtain ⟨c, hc, _, _⟩ := DataW.trod_int Tryz.underlying3 h2
      simp only [List.cons.injEq, and_true] at ha hb hc
      subst ha hb hc
      exact ⟨(a, b, c), rfl, trivial⟩
 exact ⟨l, h1, h2⟩
theorem open_i22 {H : Type} {enc : TypeId × Value -> H} {W : World} {r : Reach} {base : Nat} {v : Value} {d : DataW H} {ps : List MemPlace} (hval : Value.okWide Tryz.prog W r base 25 v)
 (h : DataW.Trod enc Tryz.prog W 0 (fun _ => true) true 25 v d ps) :
 ∃ (inp : ByteArray) (e0 : Int) (l : List F22) (p : Option Addr) (c : Nat), v = .agg #[.string inp, .int .i64 e0, .slice p l.length c] ∧ SlAt encF22 (fun g => g < W.heap.size) W p c l := by
 obtain ⟨cs, rfl, hsz⟩ := okWide_struct Tryz.underlying25 hval
 rw [cells_in22] at hsz
 obtain ⟨fuel, hf0⟩ := h
 obtain ⟨cl⟩ := cs
 match cl, hsz with
 | [v0, v1, v2], _ =>
   obtain ⟨xs, n', _, _, _, hlen, hf⟩ := DataW.trod_struct Tryz.underlying25 hf0
   match xs, hlen with
   | [y0, y1, y2], _ =>
     have h0 := hf 0 _ rfl
     have h1 := hf 1 _ rfl
     have h2 := hf 2 _ rfl
     simp only [Value.cells, List.getElem_toArray, List.getElem_cons_zero, List.getElem_cons_succ, cells_int22, cells_string22, cells_row22, List.drop_zero, List.drop_succ_cons, List.take_succ_cons, List.take_zero] at h0 h1 h2
     obtain ⟨a, ha, _, _⟩ := DataW.trod_string Tryz.underlying9 h0
     obtain ⟨b, hb, _, _⟩ := DataW.trod_int Tryz.underlying3 h1
     simp only [List.cons.injEq, and_true] at ha hb
     subst ha hb
     obtain ⟨p, len, cap, rfl⟩ : ∃ p len cap, v2 = .slice p len cap := by
      rcases Go.Deep.open_slice Tryz.underlying23 h2 with ⟨hcs, _⟩ | ⟨a, len1, cap1, m, n, D, Pl, hcs, _⟩
      ·simp only [List.cons.injEq, and_true] at hcs
       exact ⟨_, _, _, hcs⟩
      ·simp only [List.cons.injEq, and_true] at hcs
       exact ⟨_, _, _, hcs⟩
     obtain ⟨l, rfl, hs⟩ := open_f22 (enc := enc) (d := y2.1) (ps := y2.2) ⟨n', by simpa [Value.cells] using h2⟩
     exact ⟨a, b, l, p, cap, rfl, hs⟩
theorem t10_of {W : World} (h : laidMet Tryz.prog [("internal/strconv.uint64pow10", Rows.laid_internal_strconv_uint64pow10)] W) : T10 W := by
 rw [show Rows.laid_internal_strconv_uint64pow10 = Lib.tabData .u64 Lib.pow10Tab by kernel_rfl] at h
 exact Lib.tabIs_of_head (show Tryz.prog.globalNamed "internal/strconv.uint64pow10" = some 3 by kernel_rfl) (show (Tryz.prog.globals[3]?).map (·.type) = some 162 by kernel_rfl)
  (show Tryz.prog.underlying 162 = some (.array 20 40) by kernel_rfl) (show Tryz.prog.underlying 40 = some (.int .u64) by kernel_rfl) (by kernel_rfl) (by kernel_rfl) h
end Go.Proofs.YtkdfgkbojbdelaaGreatDoor
