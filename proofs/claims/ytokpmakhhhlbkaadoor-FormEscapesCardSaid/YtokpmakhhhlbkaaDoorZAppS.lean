/-
  append(v, x...), whatever x is: a slice or a string.
-/
import Derived.Test.YtokpmakhhhlbkaaDoorB01

set_option linter.unusedSimpArgs false
set_option linter.unusedVariables false

set_option maxRecDepth 100000
namespace Go.Proofs.YtokpmakhhhlbkaaDoor
open Go Go.RowKit

section
variable {α : Type} {E : Enc α} {P : Program} {t e : TypeId} {z : α} {bytes : Nat} {S : Nat → Prop} {w : World}

/-- append(v, x...): v owned; x yields the elements m. -/
theorem run_appendS (T : ElemT P E t e z bytes) (ty tx : TypeId) {v x : Value} {l m : List α} (ho : Own E e S w v l) (hSrc : Src P E.k tx x m.length (m.flatMap E.enc) w)
    (hS : S w.heap.size) (h63 : l.length + m.length ≤ maxLen) (hb : (l.length + m.length) * bytes ≤ 140737488355328) :
    ∃ v' w', (Builtin.append_ #[t, tx] ty #[v, x]).run P w = .ok v' w' ∧ Own E e S w' v' (l ++ m) ∧ Keeps (fun g => v.ownBlock = some g) w w' ∧
      (∀ g, v'.ownBlock = some g → v.ownBlock = some g ∨ w.heap.size ≤ g) := by
  obtain ⟨i, hi, hik, hib, zv, hz, hzc⟩ := T.info
  rw [← hik] at hSrc
  have h63' : ((l.length + m.length : Nat) : Int) ≤ 9223372036854775807 := by simp only [maxLen] at h63; omega
  have hKr : ∀ cs : Array Value, Keeps (fun g => v.ownBlock = some g) w (w.drew.alloc (.cells cs e)) := fun cs => ((Keeps.refl _ w).drew).alloc _
  have hgrow : ∀ base sLen sCap, l.length = sLen → sCap < sLen + m.length →
      (Builtin.firstCells i.size sLen (.slice base sLen sCap)).run P w.drew = .ok (l.flatMap E.enc).toArray w.drew →
      ∃ v' w', (Builtin.append_ #[t, tx] ty #[.slice base sLen sCap, x]).run P w = .ok v' w' ∧ Own E e S w' v' (l ++ m) ∧ Keeps (fun g => v.ownBlock = some g) w w' ∧
        (∀ g, v'.ownBlock = some g → v.ownBlock = some g ∨ w.heap.size ≤ g) := by
    intro base sLen sCap hl hlt hold
    subst hl
    have hr := run_append_grow_src (P := P) w t tx ty e i zv T.under hi hz base l.length sCap (l.flatMap E.enc) hold _ m.length _ hSrc hlt h63' (growslice_fits hlt (by rw [hib]; exact hb))
    have hge := grownCap_ge w (l.length + m.length) sCap e
    have hle := grownCap_le_maxLen w (l.length + m.length) sCap e h63
    refine ⟨_, _, hr, ?_, hKr _, fun g hg => by simp [Value.ownBlock] at hg; right; omega⟩
    have hfr := own_fresh (E := E) (e := e) (S := S) (w := w.drew) (l ++ m) (List.replicate (grownCap w (l.length + m.length) sCap e - (l.length + m.length)) z) hS
      (by simp; omega) ((l.flatMap E.enc ++ m.flatMap E.enc).toArray ++ Builtin.zeroCells zv.cells (grownCap w (l.length + m.length) sCap e - (l.length + m.length)))
      (by simp [zeroCells_flat (E := E) zv.cells _ hzc])
    rw [show (l ++ m).length + (List.replicate (grownCap w (l.length + m.length) sCap e - (l.length + m.length)) z).length = grownCap w (l.length + m.length) sCap e by simp; omega] at hfr
    rw [show (l ++ m).length = l.length + m.length by simp] at hfr
    exact hfr
  rcases ho.cases with ⟨rfl, rfl⟩ | ⟨g, cap, cur, rfl, hSg, hg, hcap, hmax, hsz, htk⟩
  · by_cases h0 : m.length = 0
    · have : m = [] := List.eq_nil_of_length_eq_zero h0
      subst this
      refine ⟨.slice none 0 0, w, ?_, Own.nil E e S w, Keeps.refl _ w, fun g hg => .inl hg⟩
      have h1 := hSrc.len w
      have h2 := hSrc.cells
      simp only [List.length_nil, List.flatMap_nil] at h1 h2 ⊢
      rcases hSrc.kind with ⟨e', hk⟩ | hk <;> simp [Builtin.append_, run_underlying T.under, run_underlying hk, sizeOf, typeInfo, hi, h1, h2]
    · exact hgrow none 0 0 rfl (by simp; omega) (run_firstCells_none _ _ _ _ _)
  · by_cases hroom : l.length + m.length ≤ cap
    · have hr := run_append_room_src (P := P) w t tx ty e i T.under hi g 0 l.length cap _ m.length (m.flatMap E.enc) hSrc hroom
        (fun j hj => by
          rw [E.flat_len] at hj
          have : (l.length + m.length) * E.k ≤ cap * E.k := Nat.mul_le_mul_right _ hroom
          rw [Nat.add_mul] at this
          rw [cell_of_row w g _ cur e (0, 0) hg, Array.getElem?_eq_getElem (by rw [hik, hsz]; omega)]; rfl)
        (fun j _ => frozen_of_row w g _ cur e hg)
      have hfit : l.length * E.k + (m.flatMap E.enc).length ≤ cur.size := by
        have : (l.length + m.length) * E.k ≤ cap * E.k := Nat.mul_le_mul_right _ hroom
        rw [Nat.add_mul] at this; rw [E.flat_len, hsz]; omega
      have hst1 := run_storeCells_at P g (l.length * E.k) e (m.flatMap E.enc) 0 cur w hg (by simpa using hfit) (E.flat_one m)
      have hst2 := run_storeCells_cells (P := P) g (l.length * E.k) (m.flatMap E.enc) 0 w
        (fun j hj => by rw [cell_of_row w g _ cur e (0, 0) hg, Array.getElem?_eq_getElem (by omega)]; rfl) (fun j _ => frozen_of_row w g _ cur e hg) (E.flat_one m)
      have hw : w.setCells g (0 + l.length * i.size) (m.flatMap E.enc) = w.setRow g (cur.toList.take (l.length * E.k) ++ m.flatMap E.enc ++ cur.toList.drop (l.length * E.k + (m.flatMap E.enc).length)).toArray := by
        rw [hik, Nat.zero_add]
        rw [hst2] at hst1
        simp only [Nat.add_zero] at hst1
        injection hst1
      rw [hw] at hr
      refine ⟨_, _, hr, ?_, ⟨rfl, rfl, rfl, by simp, fun k _ hk => setRow_other w g k _ (fun e => hk (by simp [Value.ownBlock, e]))⟩, fun g' hg' => .inl hg'⟩
      rw [show l.length + m.length = (l ++ m).length by simp]
      refine Own.mk hSg (setRow_heap w g cur _ e _ hg) (by simpa using hroom) hmax ?_ ?_
      · have hL : cur.toList.length = cap * E.k := by rw [Array.length_toList]; exact hsz
        rw [List.size_toArray, List.length_append, List.length_append, List.length_take, List.length_drop]; omega
      · rw [htk, ← E.flat_len, List.flatMap_append]
        simp only [List.append_assoc]
        rw [← List.append_assoc]
        exact List.take_left
    · refine hgrow _ _ _ rfl (by omega) (run_firstCells_some w.drew i.size l.length ⟨g, 0, none⟩ l.length cap _ (by rw [E.flat_len, hik]) (fun j u hu => ?_))
      rw [add_lit, World.cell?_drew, cell_of_row w g _ cur e (0, 0) hg, Nat.zero_add, ← hu, ← htk, List.getElem?_take, if_pos (by have := (List.getElem?_eq_some_iff.1 hu).1; rw [E.flat_len] at this; exact this)]
      simp

end

/-- append(v, x...) in a walk, x a string. -/
theorem wpl_appendS {α : Type} {E : Enc α} {P : Program} {t tx e : TypeId} {z : α} {bytes : Nat} {S : Nat → Prop} {w : World} {ops : Array Oper} {Q : Exit → Act → World → Prop} {rest : List Oper} {o : Oper} {a : Act}
    (hgd : o.guard = none) (s x : Operand) (ho : o.op = .call { callee := .builtin .append, args := #[s, x], argTypes := #[t, tx] }) (T : ElemT P E t e z bytes)
    {v xv : Value} {l m : List α} (hown : Own E e S w v l) (hsl : Src P E.k tx xv m.length (m.flatMap E.enc) w) (hs : a.eval s = v) (hx : a.eval x = xv) (hS : S w.heap.size)
    (h63 : l.length + m.length ≤ maxLen) (hb : (l.length + m.length) * bytes ≤ 140737488355328)
    (h : ∀ v' w', Own E e S w' v' (l ++ m) → Keeps (fun g => v.ownBlock = some g) w w' → (∀ g, v'.ownBlock = some g → v.ownBlock = some g ∨ w.heap.size ≤ g) → wpList P ops Q rest (a.put o.dst v') w') :
    wpList P ops Q (o :: rest) a w := by
  obtain ⟨v', w', hr, h1, h2, h3⟩ := run_appendS T o.type tx hown hsl hS h63 hb
  exact Lib.wpList_append_run w hgd s x t tx ho v xv hs hx v' w' hr (h v' w' h1 h2 h3)

end Go.Proofs.YtokpmakhhhlbkaaDoor
