/-
  The reference for layer 7: New.
-/
import Derived.Test.YtbmalnllppamdaaGreatDoorC02
import Derived.Test.YtbmalnllppamdaaGreatDoorB18
import Derived.Deep.WholeRow

set_option linter.unusedSimpArgs false
set_option linter.unusedVariables false

set_option maxRecDepth 100000
set_option maxHeartbeats 4000000
namespace Go.Proofs.YtbmalnllppamdaaGreatDoor
open Go Go.RowKit

/-- A table's cells: the disk's, then no thing, then the numbers; those below i (j) are none's. -/
def r7row (vp : Value) (room calls fail : Int) (i j : Nat) : List Value :=
  [vp, .int .i64 room, .int .i64 calls, .int .i64 fail, .slice none 0 0] ++ (List.replicate i (.int .i64 (-1)) ++ List.replicate (64 - i) (.int .i64 0)) ++ (List.replicate j (.int .i64 (-1)) ++ List.replicate (64 - j) (.int .i64 0))

theorem r7zero (vp : Value) (room calls fail : Int) : (((((Tryz.zeroCells38.setIfInBounds 0 vp).setIfInBounds 1 (.int .i64 room)).setIfInBounds 2 (.int .i64 calls)).setIfInBounds 3 (.int .i64 fail)) : Array Value) = (r7row vp room calls fail 0 0).toArray := by
  apply Array.ext'
  rfl
theorem r7len (vp : Value) (room calls fail : Int) {i j : Nat} (hi : i ≤ 64) (hj : j ≤ 64) : (r7row vp room calls fail i j).length = 133 := by
  simp only [r7row, List.length_append, List.length_replicate, List.length_cons, List.length_nil]
  omega
theorem r7one {vp : Value} (ho : vp.oneCell' = true) (room calls fail : Int) (i j : Nat) : (r7row vp room calls fail i j).toArray.all (·.oneCell') = true := by
  rw [Array.all_eq_true_iff_forall_mem]
  intro x hx
  simp only [r7row, List.mem_toArray, List.mem_append, List.mem_cons, List.mem_replicate, List.not_mem_nil, or_false] at hx
  rcases hx with ((rfl | rfl | rfl | rfl | rfl) | ⟨_, rfl⟩ | ⟨_, rfl⟩) | ⟨_, rfl⟩ | ⟨_, rfl⟩
  · exact ho
  all_goals rfl
theorem r7set0 (vp : Value) (room calls fail : Int) {i j : Nat} (hi : i < 64) : (r7row vp room calls fail i j).set (5 + i) (.int .i64 (-1)) = r7row vp room calls fail (i + 1) j := by
  unfold r7row
  rw [List.append_assoc, List.append_assoc, List.set_append_right _ _ (by simp)]
  simp only [List.length_cons, List.length_nil]
  rw [show 5 + i - (0 + 1 + 1 + 1 + 1 + 1) = i by omega, List.set_append_right _ _ (by simp), List.length_replicate, Nat.sub_self, List.set_append_left _ _ (by simp; omega)]
  obtain ⟨k, hk⟩ : ∃ k, 64 - i = k + 1 := ⟨63 - i, by omega⟩
  rw [hk, show 64 - (i + 1) = k by omega, List.replicate_succ, List.set_cons_zero, List.replicate_succ' (n := i)]
  simp only [List.append_assoc, List.cons_append, List.nil_append]
theorem r7set1 (vp : Value) (room calls fail : Int) {i j : Nat} (hi : i ≤ 64) (hj : j < 64) : (r7row vp room calls fail i j).set (69 + j) (.int .i64 (-1)) = r7row vp room calls fail i (j + 1) := by
  unfold r7row
  rw [List.set_append_right _ _ (by simp; omega)]
  rw [show 69 + j - ([vp, .int .i64 room, .int .i64 calls, .int .i64 fail, .slice none 0 0] ++ (List.replicate i (Value.int .i64 (-1)) ++ List.replicate (64 - i) (Value.int .i64 0))).length = j by simp; omega, List.set_append_right _ _ (by simp), List.length_replicate, Nat.sub_self]
  obtain ⟨k, hk⟩ : ∃ k, 64 - j = k + 1 := ⟨63 - j, by omega⟩
  rw [hk, show 64 - (j + 1) = k by omega, List.replicate_succ, List.set_cons_zero, List.replicate_succ' (n := j)]
  simp only [List.append_assoc, List.cons_append, List.nil_append]

/-- While numbers are laid: the block of the table, the block of the answer. -/
structure R7 (w wr : World) (l : List Value) (T : TypeId) : Prop where
  h3 : wr.heap[w.heap.size + 1 + 1]? = some (.cells l.toArray T (0, 0))
  h2 : wr.heap[w.heap.size + 1]? = some (.cells Tryz.zeroCells38 T (0, 0))
  k : Keeps NoB w wr

theorem R7.cell {w wr : World} {l : List Value} {T : TypeId} (h : R7 w wr l T) {k : Nat} {v : Value} (hv : l[k]? = some v) : wr.cell? ⟨w.heap.size + 1 + 1, k, none⟩ = some v := by
  rw [cell_of_row _ _ _ _ _ _ h.h3]; simpa using hv
theorem R7.fz {w wr : World} {l : List Value} {T : TypeId} (h : R7 w wr l T) (k : Nat) : wr.frozen? ⟨w.heap.size + 1 + 1, k, none⟩ = false := by
  unfold World.frozen?
  rw [h.h3]
  simp
theorem R7.set {w wr : World} {l : List Value} {T : TypeId} (h : R7 w wr l T) (k : Nat) (v : Value) : R7 w (wr.setCell ⟨w.heap.size + 1 + 1, k, none⟩ v) (l.set k v) T := by
  have e := setCell_eq_setRow wr (w.heap.size + 1 + 1) k _ _ _ v h.h3
  refine ⟨?_, ?_, ?_⟩
  · rw [e, setRow_heap _ _ _ _ _ _ h.h3]
    simp
  · rw [e, setRow_other _ _ _ _ (by omega)]
    exact h.h2
  · exact h.k.setCell (.inr (by show w.heap.size ≤ w.heap.size + 1 + 1; omega)) v

theorem r7start (w : World) (c1 c2 c3 : Array Value) (T1 T : TypeId) : (((w.alloc (.cells c1 T1)).alloc (.cells c2 T)).alloc (.cells c3 T)).heap[w.heap.size + 1 + 1]? = some (.cells c3 T (0, 0)) ∧ (((w.alloc (.cells c1 T1)).alloc (.cells c2 T)).alloc (.cells c3 T)).heap[w.heap.size + 1]? = some (.cells c2 T (0, 0)) := by
  refine ⟨?_, ?_⟩
  · have h := heap_alloc_last ((w.alloc (.cells c1 T1)).alloc (.cells c2 T)) (.cells c3 T)
    rwa [show ((w.alloc (.cells c1 T1)).alloc (.cells c2 T)).heap.size = w.heap.size + 1 + 1 by simp] at h
  · have h := heap_alloc_last (w.alloc (.cells c1 T1)) (.cells c2 T)
    have k := ((Keeps.refl NoB ((w.alloc (.cells c1 T1)).alloc (.cells c2 T))).alloc (.cells c3 T)).block (w.heap.size + 1) (by simp) (fun x => x)
    rw [k]
    rwa [show (w.alloc (.cells c1 T1)).heap.size = w.heap.size + 1 by simp] at h
theorem wp_loadAt {P : Program} {o : Oper} {a : Act} {w : World} {next : Act → World → Prop} {Q : Exit → Act → World → Prop} {t : TypeId} {p : Operand} {v : Value} (ho : o.op = .load t p) (h : (Instr.loadAt t (a.eval p)).run P w = .ok v w) (hn : next (a.put o.dst v) w) : o.wp P a w next Q := by
  unfold Oper.wp execOp
  simp only [ho, Sem.run_bind, h, Result.andThen, Sem.run_pure]
  exact hn
theorem wp_storeAt {P : Program} {o : Oper} {a : Act} {w w' : World} {next : Act → World → Prop} {Q : Exit → Act → World → Prop} {t : TypeId} {p x : Operand} (ho : o.op = .store t p x) (h : (Instr.storeAt t (a.eval p) (a.eval x)).run P w = .ok () w') (hn : next (a.put o.dst undef) w') : o.wp P a w next Q := by
  unfold Oper.wp execOp
  simp only [ho, Sem.run_bind, h, Result.andThen, Sem.run_pure]
  exact hn
theorem R7.load {w wr : World} {l : List Value} (h : R7 w wr l 38) (hl : l.length = 133) : (Instr.loadAt 38 (.pointer (some ⟨w.heap.size + 1 + 1, 0, none⟩))).run Tryz.prog wr = .ok (.agg l.toArray) wr := by
  simp only [Instr.loadAt, Instr.sureAddr, Sem.run_bind, Sem.run_pure, Result.andThen]
  exact run_loadVar_row wr _ _ _ _ _ _ h.h3 Tryz.underlying38 rfl (by simp only [List.size_toArray, hl]; kernel_rfl)
theorem R7.store {w wr : World} {l l' : List Value} (h : R7 w wr l 38) (hl : l'.length = 133) (h1 : l'.toArray.all (·.oneCell') = true) : (storeCells ⟨w.heap.size + 1, 0, none⟩ l').run Tryz.prog wr = .ok () (wr.setRow (w.heap.size + 1) l'.toArray) := by
  have := run_storeVar_row (P := Tryz.prog) wr _ _ 38 _ l'.toArray h.h2 (by simp only [List.size_toArray, hl]; kernel_rfl) (by simp only [List.size_toArray, hl]; rfl) h1
  have hi : ((Tryz.prog.info? 38).map (·.size)) = some 133 := by kernel_rfl
  cases hq : Tryz.prog.info? 38 with
  | none => simp [hq] at hi
  | some i =>
    have hs : i.size = 133 := by simpa [hq] using hi
    simpa [storeVar, sizeOf, typeInfo, hq, Value.cells, hs, hl] using this
theorem R7.done {w wr : World} {l l' : List Value} (h : R7 w wr l 38) (hl : l'.length = 133) : (loadVar 38 ⟨w.heap.size + 1, 0, none⟩).run Tryz.prog (wr.setRow (w.heap.size + 1) l'.toArray) = .ok (.agg l'.toArray) (wr.setRow (w.heap.size + 1) l'.toArray) ∧ Keeps NoB w (wr.setRow (w.heap.size + 1) l'.toArray) := by
  have h2 := setRow_heap _ _ _ l'.toArray _ _ h.h2
  refine ⟨run_loadVar_row _ _ _ _ _ _ _ h2 Tryz.underlying38 rfl (by simp only [List.size_toArray, hl]; kernel_rfl), h.k.os, h.k.tape, h.k.output, by rw [setRow_size]; exact h.k.size, fun k hk hF => ?_⟩
  rw [setRow_other _ _ _ _ (by omega)]
  exact h.k.block k hk hF

theorem r7New_any (w : World) (vp : Value) (room calls fail : Int) (ho : vp.oneCell' = true) :
    Calls Tryz.prog 52 #[.agg #[vp, .int .i64 room, .int .i64 calls, .int .i64 fail]] w fun e w' => e = .returned (.agg (r7row vp room calls fail 64 64).toArray) ∧ Keeps NoB w w' := by
  have hst : (storeCells ⟨w.heap.size + 1 + 1, 0, none⟩ ((((Tryz.zeroCells38.toList.set 0 vp).set 1 (.int .i64 room)).set 2 (.int .i64 calls)).set 3 (.int .i64 fail))).run Tryz.prog (((w.alloc (.cells #[vp, .int .i64 room, .int .i64 calls, .int .i64 fail] 33)).alloc (.cells Tryz.zeroCells38 38)).alloc (.cells Tryz.zeroCells38 38)) = .ok () (((w.alloc (.cells #[vp, .int .i64 room, .int .i64 calls, .int .i64 fail] 33)).alloc (.cells Tryz.zeroCells38 38)).alloc (.cells (r7row vp room calls fail 0 0).toArray 38)) := by
    have := run_storeCells_new (P := Tryz.prog) ((w.alloc (.cells #[vp, .int .i64 room, .int .i64 calls, .int .i64 fail] 33)).alloc (.cells Tryz.zeroCells38 38)) 38 Tryz.zeroCells38 (r7row vp room calls fail 0 0).toArray (by kernel_rfl) (by rfl) (r7one ho _ _ _ _ _)
    rw [show ((r7row vp room calls fail 0 0).toArray).toList = ((((Tryz.zeroCells38.toList.set 0 vp).set 1 (.int .i64 room)).set 2 (.int .i64 calls)).set 3 (.int .i64 fail)) by rw [← r7zero]; simp] at this
    simpa using this
  go_enter Tryz.func52, Tryz.ntmps52
  go_upto_region 2 with fail
  clear hst
  have HR : Hid (R7 w (((w.alloc (.cells #[vp, .int .i64 room, .int .i64 calls, .int .i64 fail] 33)).alloc (.cells Tryz.zeroCells38 38)).alloc (.cells (r7row vp room calls fail 0 0).toArray 38)) (r7row vp room calls fail 0 0) 38) := ⟨(r7start _ _ _ _ _ _).1, (r7start _ _ _ _ _ _).2, (((Keeps.refl _ _).alloc _).alloc _).alloc _⟩
  generalize ((w.alloc (.cells #[vp, .int .i64 room, .int .i64 calls, .int .i64 fail] 33)).alloc (.cells Tryz.zeroCells38 38)).alloc (.cells (r7row vp room calls fail 0 0).toArray 38) = w0 at *
  go_wp2_with fail
  go_loopw [4] (fun v wr => ∃ i : Nat, i ≤ 64 ∧ v = .int .i64 i ∧ R7 w wr (r7row vp room calls fail i i) 38) (fun v _ => 65 - (intOf v).toNat)
  case atStart => exact ⟨0, by decide, rfl, HR.out⟩
  case round =>
    obtain ⟨i, hi, rfl, hR⟩ := hrel
    have HR1 := Lib.hid hR
    clear hR HR
    by_cases hlt : i < 64
    · have z1 : (i : Int) < 64 := by omega
      have hwr : IntKind.i64.wrap ((i : Int) + 1) = ((i + 1 : Nat) : Int) := by rw [IntKind.wrap_i64]; omega
      have c5 := HR1.out.cell (k := 5 + i) (List.getElem?_eq_getElem (by rw [r7len _ _ _ _ hi hi]; omega))
      have f5 := HR1.out.fz (5 + i)
      go_upto_region 6 with fail
      have HR2 := Lib.hid (HR1.out.set (5 + i) (.int .i64 (-1)))
      rw [r7set0 _ _ _ _ hlt] at HR2
      clear HR1 c5 f5
      generalize wr.setCell ⟨w.heap.size + 1 + 1, 5 + i, none⟩ (.int .i64 (-1)) = w2 at *
      have c6 := HR2.out.cell (k := 69 + i) (List.getElem?_eq_getElem (by rw [r7len _ _ _ _ (by omega) hi]; omega))
      have f6 := HR2.out.fz (69 + i)
      go_upto_region 4 with fail
      have HR3 := Lib.hid (HR2.out.set (69 + i) (.int .i64 (-1)))
      rw [r7set1 _ _ _ _ (by omega) hlt] at HR3
      clear HR2 c6 f6
      generalize w2.setCell ⟨w.heap.size + 1 + 1, 69 + i, none⟩ (.int .i64 (-1)) = w3 at *
      go_wp2_with fail
      go_roundw
      case rel => exact ⟨i + 1, by omega, by go_num, HR3.out⟩
      case measure => simp [intOf]; omega
    · have z1 : ¬ (i : Int) < 64 := by omega
      obtain rfl : i = 64 := by omega
      have h64 := r7len vp room calls fail (Nat.le_refl 64) (Nat.le_refl 64)
      have hld := HR1.out.load h64
      have hst := HR1.out.store h64 (r7one ho _ _ _ _ _)
      obtain ⟨L, hL⟩ : ∃ L, r7row vp room calls fail 64 64 = L := ⟨_, rfl⟩
      have HL := Lib.hid hL
      rw [hL] at h64 hld hst HR1
      clear hL
      obtain ⟨hdn, hkk⟩ := HR1.out.done (l' := L) h64
      have HD := Lib.hid hdn
      have HKK := Lib.hid hkk
      clear hdn hkk
      go_wp2_with fail
      refine wp_loadAt rfl hld ?_
      clear hld
      go_wp2_with fail
      clear hst
      refine bodyPost_ret (v := .agg L.toArray) ?_ rfl ⟨by rw [HL.out], HKK.out⟩
      rw [results_cell_one rfl]
      simp [asAddr, Result.andThen, HD.out]

end Go.Proofs.YtbmalnllppamdaaGreatDoor
