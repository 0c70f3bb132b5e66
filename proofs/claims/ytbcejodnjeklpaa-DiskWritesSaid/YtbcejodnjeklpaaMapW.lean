/-
  Maps whose keys are numbers: what a map's block holds, as a list of pairs, and what look-up, store, delete, len and make do to it.
-/
import Derived.Test.YtbcejodnjeklpaaBase
import Derived.Maps.OwnOps
import Derived.Maps.OwnSet
namespace Go.Proofs.Ytbcejodnjeklpaa
open Go.RowKit

/-- Pairs: keys and values. -/
abbrev Kv := List (Int × Value)

def kvGet (l : Kv) (k : Int) : Option Value := (l.find? fun x => decide (x.1 = k)).map (·.2)
def kvDel (l : Kv) (k : Int) : Kv := l.filter fun x => !decide (x.1 = k)

/-- The block b of w is a map of these pairs. -/
structure IMap (w : World) (b : Nat) (l : Kv) : Prop where
  blk : ∃ es clock, w.heap[b]? = some (.map es clock) ∧ es.toList.map (fun e => (e.key, e.val)) = l.map fun x => (Value.int .i64 x.1, x.2)
  nodup : (l.map (·.1)).Nodup

theorem IMap.lt {w : World} {b : Nat} {l : Kv} (h : IMap w b l) : b < w.heap.size := by
  obtain ⟨es, c, hb, _⟩ := h.blk
  exact lt_of_block hb

theorem IMap.keep {F : Nat → Prop} {w w' : World} {b : Nat} {l : Kv} (h : IMap w b l) (k : Keeps F w w') (hF : ¬ F b) : IMap w' b l := by
  obtain ⟨es, c, hb, he⟩ := h.blk
  exact ⟨⟨es, c, (k.block b h.lt hF).trans hb, he⟩, h.nodup⟩

theorem kvDel_none {l : Kv} {k : Int} (h : ∀ x ∈ l, x.1 ≠ k) : kvDel l k = l := List.filter_eq_self.2 fun x hx => by simpa using h x hx

theorem kvGet_mem {l : Kv} (hn : (l.map (·.1)).Nodup) {k : Int} {v : Value} : kvGet l k = some v ↔ (k, v) ∈ l := by
  unfold kvGet
  induction l with
  | nil => simp
  | cons a l ih =>
    rw [List.map_cons, List.nodup_cons] at hn
    have ih := ih hn.2
    rw [List.find?_cons]
    by_cases e : a.1 = k
    · subst e
      simp only [decide_true, Option.map_some, Option.some.injEq, List.mem_cons, Prod.ext_iff]
      constructor
      · rintro rfl; simp
      · rintro (⟨_, h⟩ | h)
        · exact h.symm
        · exact absurd (List.mem_map.2 ⟨_, h, rfl⟩) hn.1
    · simp only [e, decide_false, ih, List.mem_cons]
      constructor
      · exact .inr
      · rintro (h | h)
        · subst h; exact absurd rfl e
        · exact h

theorem kvGet_none {l : Kv} {k : Int} : kvGet l k = none ↔ ∀ x ∈ l, x.1 ≠ k := by
  simp [kvGet]

/-- What a search in the map's entries finds. -/
theorem findNow_int {es : List MapEntry} {l : Kv} (he : es.map (fun e => (e.key, e.val)) = l.map fun x => (Value.int .i64 x.1, x.2)) (hn : (l.map (·.1)).Nodup) (k : Int) (i : Nat) :
    (kvGet l k = none ∧ Instr.findNow (.int .i64) (.int .i64 k) es i = some none) ∨
    ∃ j v, kvGet l k = some v ∧ Instr.findNow (.int .i64) (.int .i64 k) es i = some (some (i + j, v)) ∧ j < es.length ∧ (es.eraseIdx j).map (fun e => (e.key, e.val)) = (kvDel l k).map fun x => (Value.int .i64 x.1, x.2) := by
  induction es generalizing l i with
  | nil =>
    cases l with
    | nil => exact .inl ⟨rfl, rfl⟩
    | cons _ _ => simp at he
  | cons e es ih =>
    cases l with
    | nil => simp at he
    | cons a l =>
      simp only [List.map_cons, List.cons.injEq, Prod.mk.injEq] at he
      obtain ⟨⟨hk, hv⟩, he⟩ := he
      rw [List.map_cons, List.nodup_cons] at hn
      by_cases ea : a.1 = k
      · subst ea
        refine .inr ⟨0, a.2, by simp [kvGet], ?_, by simp, ?_⟩
        · simp [Instr.findNow, Instr.sameNow, hk, hv]
        · have hd : kvDel (a :: l) a.1 = l := by
            unfold kvDel
            rw [List.filter_cons]
            simp only [decide_true, Bool.not_true, Bool.false_eq_true, if_false]
            exact kvDel_none fun x hx e => hn.1 (List.mem_map.2 ⟨x, hx, e⟩)
          rw [hd]
          simpa using he
      · have hsk : Instr.findNow (.int .i64) (.int .i64 k) (e :: es) i = Instr.findNow (.int .i64) (.int .i64 k) es (i + 1) := by
          have hb : (k == a.1) = false := beq_false_of_ne fun h => ea h.symm
          simp only [Instr.findNow, Instr.sameNow, hk, if_true, hb]
        have hg : kvGet (a :: l) k = kvGet l k := by simp [kvGet, List.find?_cons, ea]
        have hd : kvDel (a :: l) k = a :: kvDel l k := by simp [kvDel, List.filter_cons, ea]
        rcases ih he hn.2 (i + 1) with ⟨h1, h2⟩ | ⟨j, v, h1, h2, h3, h4⟩
        · exact .inl ⟨hg.trans h1, hsk.trans h2⟩
        · refine .inr ⟨j + 1, v, hg.trans h1, hsk.trans (h2.trans (by rw [Nat.add_right_comm, Nat.add_assoc])), by simpa using h3, ?_⟩
          rw [hd]
          simpa [hk, hv] using h4

section
variable {P : Program} {t kt et : TypeId} {w : World} {b : Nat} {l : Kv}

/-- m[k]. -/
theorem IMap.lookup (h : IMap w b l) (ht : P.underlying t = some (.map kt et)) (hk : P.underlying kt = some (.int .i64)) {z : Value} (hz : (zeroValue et).run P w = .ok z w) (k : Int) :
    (Instr.lookup t (.map (some b)) (.int .i64 k) false).run P w = .ok ((kvGet l k).getD z) w := by
  obtain ⟨es, c, hb, he⟩ := h.blk
  have hck := fun e => MapKept.run_checkKey (w := w) hk (k := .int .i64 k) (by simp [MapKept.IsKey]) e 9999
  rcases findNow_int he h.nodup k 0 with ⟨h1, h2⟩ | ⟨j, v, h1, h2, _, _⟩
  · simp [Instr.lookup, run_underlying ht, MapKept.run_getObj_map hb, hck, MapKept.run_findKey hk h2, h1, hz, Result.andThen]
  · simp [Instr.lookup, run_underlying ht, MapKept.run_getObj_map hb, hck, MapKept.run_findKey hk h2, h1, Result.andThen]

/-- m[k] = v, of a key that is not there. -/
theorem IMap.update (h : IMap w b l) (ht : P.underlying t = some (.map kt et)) (hk : P.underlying kt = some (.int .i64)) (k : Int) (v : Value) (hno : kvGet l k = none) :
    ∃ w', (Instr.mapUpdate t (.map (some b)) (.int .i64 k) v).run P w = .ok () w' ∧ IMap w' b (l ++ [(k, v)]) ∧ Keeps (fun g => g = b) w w' := by
  obtain ⟨es, c, hb, he⟩ := h.blk
  have hck := fun e => MapKept.run_checkKey (w := w) hk (k := .int .i64 k) (by simp [MapKept.IsKey]) e 9999
  rcases findNow_int he h.nodup k 0 with ⟨h1, h2⟩ | ⟨j, v', h1, h2, _, _⟩
  · refine ⟨ChangeMaps.setBlock w b (.map (es.push { key := .int .i64 k, val := v, born := c }) (c + 1)), ?_, ⟨⟨_, _, ChangeMaps.heap_setBlock_same hb _, by simp [he]⟩, ?_⟩, ⟨rfl, rfl, rfl, by simp [ChangeMaps.setBlock], fun i _ hi => ChangeMaps.heap_setBlock_other hb _ hi⟩⟩
    · simp [Instr.mapUpdate, run_underlying ht, MapKept.run_getObj_map hb, hck, MapKept.run_findKey hk h2, MapKept.run_setObj_map _ hb, Result.andThen, ChangeMaps.setBlock]
    · rw [List.map_append, List.nodup_append]
      refine ⟨h.nodup, by simp, fun a ha b hb => ?_⟩
      simp only [List.map_cons, List.map_nil, List.mem_singleton] at hb
      subst hb
      obtain ⟨x, hx, rfl⟩ := List.mem_map.1 ha
      exact kvGet_none.1 h1 x hx
  · rw [hno] at h1; cases h1

/-- delete(m, k). -/
theorem IMap.delete (h : IMap w b l) (ht : P.underlying t = some (.map kt et)) (hk : P.underlying kt = some (.int .i64)) (k : Int) (kt' ty : TypeId) :
    ∃ w', (Builtin.delete_ #[t, kt'] ty #[.map (some b), .int .i64 k]).run P w = .ok (.tuple #[]) w' ∧ IMap w' b (kvDel l k) ∧ Keeps (fun g => g = b) w w' := by
  obtain ⟨es, c, hb, he⟩ := h.blk
  have hck := fun e => MapKept.run_checkKey (w := w) hk (k := .int .i64 k) (by simp [MapKept.IsKey]) e 9999
  have hnd : ((kvDel l k).map (·.1)).Nodup := List.Nodup.sublist (List.Sublist.map _ List.filter_sublist) h.nodup
  rcases findNow_int he h.nodup k 0 with ⟨h1, h2⟩ | ⟨j, v, h1, h2, hj, h4⟩
  · refine ⟨ChangeMaps.setBlock w b (.map es c), ?_, ⟨⟨_, _, ChangeMaps.heap_setBlock_same hb _, ?_⟩, hnd⟩, ⟨rfl, rfl, rfl, by simp [ChangeMaps.setBlock], fun i _ hi => ChangeMaps.heap_setBlock_other hb _ hi⟩⟩
    · simp [Builtin.delete_, run_underlying ht, MapKept.run_getObj_map hb, hck, MapKept.run_findKey hk h2, MapKept.run_setObj_map _ hb, Result.andThen, ChangeMaps.setBlock]
    · rw [kvDel_none (kvGet_none.1 h1)]; exact he
  · refine ⟨ChangeMaps.setBlock w b (.map (es.eraseIdxIfInBounds j) c), ?_, ⟨⟨_, _, ChangeMaps.heap_setBlock_same hb _, ?_⟩, hnd⟩, ⟨rfl, rfl, rfl, by simp [ChangeMaps.setBlock], fun i _ hi => ChangeMaps.heap_setBlock_other hb _ hi⟩⟩
    · simp [Builtin.delete_, run_underlying ht, MapKept.run_getObj_map hb, hck, MapKept.run_findKey hk h2, MapKept.run_setObj_map _ hb, Result.andThen, ChangeMaps.setBlock]
    · rw [← h4]
      have hj' : j < es.size := by simpa using hj
      simp [Array.eraseIdxIfInBounds, hj', Array.toList_eraseIdx]

/-- len(m). -/
theorem IMap.len (h : IMap w b l) (ht : P.underlying t = some (.map kt et)) (ty : TypeId) : (Builtin.len_ #[t] ty #[.map (some b)]).run P w = .ok (goInt l.length) w := by
  obtain ⟨es, c, hb, he⟩ := h.blk
  have : es.size = l.length := by have := congrArg List.length he; simpa using this
  simp [Builtin.len_, run_underlying ht, MapKept.run_getObj_map hb, Result.andThen, this]

/-- make(map[K]V). -/
theorem IMap.made (w : World) : IMap (w.alloc (.map #[] 0)) w.heap.size [] := ⟨⟨#[], 0, heap_alloc_new w _, rfl⟩, by simp⟩

end

/-- A store into a map, in a walk. -/
theorem wpl_mapUpdate {P : Program} {w : World} {ops : Array Oper} {rest : List Oper} {o : Oper} {a : Act} {Q : Exit → Act → World → Prop} (hg : o.guard = none) (m x v : Operand) (t : TypeId) (hop : o.op = Op.mapUpdate t m x v)
    {kt et : TypeId} (ht : P.underlying t = some (.map kt et)) (hk : P.underlying kt = some (.int .i64)) {b : Nat} {l : Kv} (hm : a.eval m = .map (some b)) (h : IMap w b l) {k : Int} (hx : a.eval x = .int .i64 k) {val : Value} (hv : a.eval v = val)
    (hno : kvGet l k = none) (hK : ∀ w', IMap w' b (l ++ [(k, val)]) → Keeps (fun g => g = b) w w' → wpList P ops Q rest (a.put o.dst undef) w') :
    wpList P ops Q (o :: rest) a w := by
  refine wpList_plain hg fun K' hK' => ?_
  obtain ⟨w', hrun, r1, r2⟩ := h.update ht hk k val hno
  unfold Oper.wp
  simp [execOp, hop, hm, hx, hv, hrun, Result.andThen]
  exact hK' _ _ (hK w' r1 r2)

/-- delete, in a walk. -/
theorem wpl_delete {P : Program} {w : World} {ops : Array Oper} {rest : List Oper} {o : Oper} {a : Act} {Q : Exit → Act → World → Prop} (hg : o.guard = none) (m x : Operand) (t kt' : TypeId)
    (hop : o.op = Op.call { callee := Callee.builtin Builtin.delete, args := #[m, x], argTypes := #[t, kt'] })
    {kt et : TypeId} (ht : P.underlying t = some (.map kt et)) (hk : P.underlying kt = some (.int .i64)) {b : Nat} {l : Kv} (hm : a.eval m = .map (some b)) (h : IMap w b l) {k : Int} (hx : a.eval x = .int .i64 k)
    (hK : ∀ w', IMap w' b (kvDel l k) → Keeps (fun g => g = b) w w' → wpList P ops Q rest (a.put o.dst (.tuple #[])) w') :
    wpList P ops Q (o :: rest) a w := by
  refine wpList_plain hg fun K' hK' => ?_
  obtain ⟨w', hrun, r1, r2⟩ := h.delete ht hk k kt' o.type
  unfold Oper.wp
  simp [execOp, hop, resolve, invoke, builtin, hm, hx, hrun, Result.andThen]
  exact hK' _ _ (hK w' r1 r2)

end Go.Proofs.Ytbcejodnjeklpaa
