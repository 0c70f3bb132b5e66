/-
  Maps whose keys are numbers: what a map's block holds, as a list of pairs, and what look-up, store, delete, len and make do to it.
-/
import Derived.Test.YtfomkkoecelakaaDoorB01
import Derived.Maps.OwnOps
import Derived.Maps.OwnSet
import Derived.Lib.ConvBytes
import Derived.Laws.IdiomStrings
import Derived.Deep.MidRow
import Derived.Deep.Upon

set_option linter.unusedSimpArgs false
set_option linter.unusedVariables false

set_option maxRecDepth 100000
namespace Go.Proofs.YtfomkkoecelakaaDoor
open Go.RowKit

/-- Pairs: keys and values. -/
abbrev Kv := List (Int × Value)

def kvGet (l : Kv) (k : Int) : Option Value := (l.find? fun x => decide (x.1 = k)).map (·.2)
def kvDel (l : Kv) (k : Int) : Kv := l.filter fun x => !decide (x.1 = k)

/-- The block b of w is a map of these pairs. -/
structure IMap (w : World) (b : Nat) (l : Kv) : Prop where
  blk : ∃ es clock, w.heap[b]? = some (.map es clock) ∧ es.toList.map (fun e => (e.key, e.val)) = l.map fun x => (Value.int .i64 x.1, x.2)
  nodup : (l.map (·.1)).Nodup

theorem IMap.lt {w : World} {b : Nat} {l : Kv} (h : IMap w b l) : b < w.heap.size := by
  obtain ⟨es, c, hb, _⟩ := h.blk
  exact lt_of_block hb

theorem IMap.keep {F : Nat → Prop} {w w' : World} {b : Nat} {l : Kv} (h : IMap w b l) (k : Keeps F w w') (hF : ¬ F b) : IMap w' b l := by
  obtain ⟨es, c, hb, he⟩ := h.blk
  exact ⟨⟨es, c, (k.block b h.lt hF).trans hb, he⟩, h.nodup⟩

theorem kvDel_none {l : Kv} {k : Int} (h : ∀ x ∈ l, x.1 ≠ k) : kvDel l k = l := List.filter_eq_self.2 fun x hx => by simpa using h x hx

theorem kvGet_mem {l : Kv} (hn : (l.map (·.1)).Nodup) {k : Int} {v : Value} : kvGet l k = some v ↔ (k, v) ∈ l := by
  unfold kvGet
  induction l with
  | nil => simp
  | cons a l ih =>
    rw [List.map_cons, List.nodup_cons] at hn
    have ih := ih hn.2
    rw [List.find?_cons]
    by_cases e : a.1 = k
    · subst e
      simp only [decide_true, Option.map_some, Option.some.injEq, List.mem_cons, Prod.ext_iff]
      constructor
      · rintro rfl; simp
      · rintro (⟨_, h⟩ | h)
        · exact h.symm
        · exact absurd (List.mem_map.2 ⟨_, h, rfl⟩) hn.1
    · simp only [e, decide_false, ih, List.mem_cons]
      constructor
      · exact .inr
      · rintro (h | h)
        · subst h; exact absurd rfl e
        · exact h

theorem kvGet_none {l : Kv} {k : Int} : kvGet l k = none ↔ ∀ x ∈ l, x.1 ≠ k := by
  simp [kvGet]

/-- What a search in the map's entries finds. -/
theorem findNow_int {es : List MapEntry} {l : Kv} (he : es.map (fun e => (e.key, e.val)) = l.map fun x => (Value.int .i64 x.1, x.2)) (hn : (l.map (·.1)).Nodup) (k : Int) (i : Nat) :
    (kvGet l k = none ∧ Instr.findNow (.int .i64) (.int .i64 k) es i = some none) ∨
    ∃ j v, kvGet l k = some v ∧ Instr.findNow (.int .i64) (.int .i64 k) es i = some (some (i + j, v)) ∧ j < es.length ∧ (es.eraseIdx j).map (fun e => (e.key, e.val)) = (kvDel l k).map fun x => (Value.int .i64 x.1, x.2) := by
  induction es generalizing l i with
  | nil =>
    cases l with
    | nil => exact .inl ⟨rfl, rfl⟩
    | cons _ _ => simp at he
  | cons e es ih =>
    cases l with
    | nil => simp at he
    | cons a l =>
      simp only [List.map_cons, List.cons.injEq, Prod.mk.injEq] at he
      obtain ⟨⟨hk, hv⟩, he⟩ := he
      rw [List.map_cons, List.nodup_cons] at hn
      by_cases ea : a.1 = k
      · subst ea
        refine .inr ⟨0, a.2, by simp [kvGet], ?_, by simp, ?_⟩
        · simp [Instr.findNow, Instr.sameNow, hk, hv]
        · have hd : kvDel (a :: l) a.1 = l := by
            unfold kvDel
            rw [List.filter_cons]
            simp only [decide_true, Bool.not_true, Bool.false_eq_true, if_false]
            exact kvDel_none fun x hx e => hn.1 (List.mem_map.2 ⟨x, hx, e⟩)
          rw [hd]
          simpa using he
      · have hsk : Instr.findNow (.int .i64) (.int .i64 k) (e :: es) i = Instr.findNow (.int .i64) (.int .i64 k) es (i + 1) := by
          have hb : (k == a.1) = false := beq_false_of_ne fun h => ea h.symm
          simp only [Instr.findNow, Instr.sameNow, hk, if_true, hb]
        have hg : kvGet (a :: l) k = kvGet l k := by simp [kvGet, List.find?_cons, ea]
        have hd : kvDel (a :: l) k = a :: kvDel l k := by simp [kvDel, List.filter_cons, ea]
        rcases ih he hn.2 (i + 1) with ⟨h1, h2⟩ | ⟨j, v, h1, h2, h3, h4⟩
        · exact .inl ⟨hg.trans h1, hsk.trans h2⟩
        · refine .inr ⟨j + 1, v, hg.trans h1, hsk.trans (h2.trans (by rw [Nat.add_right_comm, Nat.add_assoc])), by simpa using h3, ?_⟩
          rw [hd]
          simpa [hk, hv] using h4

section
variable {P : Program} {t kt et : TypeId} {w : World} {b : Nat} {l : Kv}

/-- m[k]. -/
theorem IMap.lookup (h : IMap w b l) (ht : P.underlying t = some (.map kt et)) (hk : P.underlying kt = some (.int .i64)) {z : Value} (hz : (zeroValue et).run P w = .ok z w) (k : Int) :
    (Instr.lookup t (.map (some b)) (.int .i64 k) false).run P w = .ok ((kvGet l k).getD z) w := by
  obtain ⟨es, c, hb, he⟩ := h.blk
  have hck := fun e => MapKept.run_checkKey (w := w) hk (k := .int .i64 k) (by simp [MapKept.IsKey]) e 9999
  rcases findNow_int he h.nodup k 0 with ⟨h1, h2⟩ | ⟨j, v, h1, h2, _, _⟩
  · simp [Instr.lookup, run_underlying ht, MapKept.run_getObj_map hb, hck, MapKept.run_findKey hk h2, h1, hz, Result.andThen]
  · simp [Instr.lookup, run_underlying ht, MapKept.run_getObj_map hb, hck, MapKept.run_findKey hk h2, h1, Result.andThen]

/-- m[k] = v, of a key that is not there. -/
theorem IMap.update (h : IMap w b l) (ht : P.underlying t = some (.map kt et)) (hk : P.underlying kt = some (.int .i64)) (k : Int) (v : Value) (hno : kvGet l k = none) :
    ∃ w', (Instr.mapUpdate t (.map (some b)) (.int .i64 k) v).run P w = .ok () w' ∧ IMap w' b (l ++ [(k, v)]) ∧ Keeps (fun g => g = b) w w' := by
  obtain ⟨es, c, hb, he⟩ := h.blk
  have hck := fun e => MapKept.run_checkKey (w := w) hk (k := .int .i64 k) (by simp [MapKept.IsKey]) e 9999
  rcases findNow_int he h.nodup k 0 with ⟨h1, h2⟩ | ⟨j, v', h1, h2, _, _⟩
  · refine ⟨ChangeMaps.setBlock w b (.map (es.push { key := .int .i64 k, val := v, born := c }) (c + 1)), ?_, ⟨⟨_, _, ChangeMaps.heap_setBlock_same hb _, by simp [he]⟩, ?_⟩, ⟨rfl, rfl, rfl, by simp [ChangeMaps.setBlock], fun i _ hi => ChangeMaps.heap_setBlock_other hb _ hi⟩⟩
    · simp [Instr.mapUpdate, run_underlying ht, MapKept.run_getObj_map hb, hck, MapKept.run_findKey hk h2, MapKept.run_setObj_map _ hb, Result.andThen, ChangeMaps.setBlock]
    · rw [List.map_append, List.nodup_append]
      refine ⟨h.nodup, by simp, fun a ha b hb => ?_⟩
      simp only [List.map_cons, List.map_nil, List.mem_singleton] at hb
      subst hb
      obtain ⟨x, hx, rfl⟩ := List.mem_map.1 ha
      exact kvGet_none.1 h1 x hx
  · rw [hno] at h1; cases h1

/-- delete(m, k). -/
theorem IMap.delete (h : IMap w b l) (ht : P.underlying t = some (.map kt et)) (hk : P.underlying kt = some (.int .i64)) (k : Int) (kt' ty : TypeId) :
    ∃ w', (Builtin.delete_ #[t, kt'] ty #[.map (some b), .int .i64 k]).run P w = .ok (.tuple #[]) w' ∧ IMap w' b (kvDel l k) ∧ Keeps (fun g => g = b) w w' := by
  obtain ⟨es, c, hb, he⟩ := h.blk
  have hck := fun e => MapKept.run_checkKey (w := w) hk (k := .int .i64 k) (by simp [MapKept.IsKey]) e 9999
  have hnd : ((kvDel l k).map (·.1)).Nodup := List.Nodup.sublist (List.Sublist.map _ List.filter_sublist) h.nodup
  rcases findNow_int he h.nodup k 0 with ⟨h1, h2⟩ | ⟨j, v, h1, h2, hj, h4⟩
  · refine ⟨ChangeMaps.setBlock w b (.map es c), ?_, ⟨⟨_, _, ChangeMaps.heap_setBlock_same hb _, ?_⟩, hnd⟩, ⟨rfl, rfl, rfl, by simp [ChangeMaps.setBlock], fun i _ hi => ChangeMaps.heap_setBlock_other hb _ hi⟩⟩
    · simp [Builtin.delete_, run_underlying ht, MapKept.run_getObj_map hb, hck, MapKept.run_findKey hk h2, MapKept.run_setObj_map _ hb, Result.andThen, ChangeMaps.setBlock]
    · rw [kvDel_none (kvGet_none.1 h1)]; exact he
  · refine ⟨ChangeMaps.setBlock w b (.map (es.eraseIdxIfInBounds j) c), ?_, ⟨⟨_, _, ChangeMaps.heap_setBlock_same hb _, ?_⟩, hnd⟩, ⟨rfl, rfl, rfl, by simp [ChangeMaps.setBlock], fun i _ hi => ChangeMaps.heap_setBlock_other hb _ hi⟩⟩
    · simp [Builtin.delete_, run_underlying ht, MapKept.run_getObj_map hb, hck, MapKept.run_findKey hk h2, MapKept.run_setObj_map _ hb, Result.andThen, ChangeMaps.setBlock]
    · rw [← h4]
      have hj' : j < es.size := by simpa using hj
      simp [Array.eraseIdxIfInBounds, hj', Array.toList_eraseIdx]

/-- len(m). -/
theorem IMap.len (h : IMap w b l) (ht : P.underlying t = some (.map kt et)) (ty : TypeId) : (Builtin.len_ #[t] ty #[.map (some b)]).run P w = .ok (goInt l.length) w := by
  obtain ⟨es, c, hb, he⟩ := h.blk
  have : es.size = l.length := by have := congrArg List.length he; simpa using this
  simp [Builtin.len_, run_underlying ht, MapKept.run_getObj_map hb, Result.andThen, this]

/-- make(map[K]V). -/
theorem IMap.made (w : World) : IMap (w.alloc (.map #[] 0)) w.heap.size [] := ⟨⟨#[], 0, heap_alloc_new w _, rfl⟩, by simp⟩

end

/-- A store into a map, in a walk. -/
theorem wpl_mapUpdate {P : Program} {w : World} {ops : Array Oper} {rest : List Oper} {o : Oper} {a : Act} {Q : Exit → Act → World → Prop} (hg : o.guard = none) (m x v : Operand) (t : TypeId) (hop : o.op = Op.mapUpdate t m x v)
    {kt et : TypeId} (ht : P.underlying t = some (.map kt et)) (hk : P.underlying kt = some (.int .i64)) {b : Nat} {l : Kv} (hm : a.eval m = .map (some b)) (h : IMap w b l) {k : Int} (hx : a.eval x = .int .i64 k) {val : Value} (hv : a.eval v = val)
    (hno : kvGet l k = none) (hK : ∀ w', IMap w' b (l ++ [(k, val)]) → Keeps (fun g => g = b) w w' → wpList P ops Q rest (a.put o.dst undef) w') :
    wpList P ops Q (o :: rest) a w := by
  refine wpList_plain hg fun K' hK' => ?_
  obtain ⟨w', hrun, r1, r2⟩ := h.update ht hk k val hno
  unfold Oper.wp
  simp [execOp, hop, hm, hx, hv, hrun, Result.andThen]
  exact hK' _ _ (hK w' r1 r2)

/-- delete, in a walk. -/
theorem wpl_delete {P : Program} {w : World} {ops : Array Oper} {rest : List Oper} {o : Oper} {a : Act} {Q : Exit → Act → World → Prop} (hg : o.guard = none) (m x : Operand) (t kt' : TypeId)
    (hop : o.op = Op.call { callee := Callee.builtin Builtin.delete, args := #[m, x], argTypes := #[t, kt'] })
    {kt et : TypeId} (ht : P.underlying t = some (.map kt et)) (hk : P.underlying kt = some (.int .i64)) {b : Nat} {l : Kv} (hm : a.eval m = .map (some b)) (h : IMap w b l) {k : Int} (hx : a.eval x = .int .i64 k)
    (hK : ∀ w', IMap w' b (kvDel l k) → Keeps (fun g => g = b) w w' → wpList P ops Q rest (a.put o.dst (.tuple #[])) w') :
    wpList P ops Q (o :: rest) a w := by
  refine wpList_plain hg fun K' hK' => ?_
  obtain ⟨w', hrun, r1, r2⟩ := h.delete ht hk k kt' o.type
  unfold Oper.wp
  simp [execOp, hop, resolve, invoke, builtin, hm, hx, hrun, Result.andThen]
  exact hK' _ _ (hK w' r1 r2)

end Go.Proofs.YtfomkkoecelakaaDoor

/-
  Rows of bytes that are owned: from a string, back to one, grown by noughts, written over.
-/
set_option maxRecDepth 100000
namespace Go.Proofs.YtfomkkoecelakaaDoor
open Go.RowKit

def noughts (k : Nat) : ByteArray := ⟨Array.replicate k 0⟩
theorem noughts_size (k : Nat) : (noughts k).size = k := by simp [noughts, ByteArray.size]

/-- The value v owns, in w, a row of the bytes s. -/
def OwnB (S : Nat → Prop) (w : World) (v : Value) (s : ByteArray) : Prop :=
  (v = .slice none 0 0 ∧ s.size = 0) ∨
  ∃ g cap, v = .slice (some ⟨g, 0, none⟩) s.size cap ∧ S g ∧ g < w.heap.size ∧ s.size ≤ cap ∧ cap ≤ maxLen ∧ (∀ j, j < cap → (w.cell? ⟨g, j, none⟩).isSome = true) ∧
    (∀ j, j < cap → w.frozen? ⟨g, j, none⟩ = false) ∧ ∀ j b, s.data.toList[j]? = some b → w.cell? ⟨g, j, none⟩ = some (.int .u8 (b.toNat : Int))

theorem OwnB.nil (S : Nat → Prop) (w : World) : OwnB S w (.slice none 0 0) ⟨#[]⟩ := .inl ⟨rfl, rfl⟩

theorem size_setCells' (b : Nat) : ∀ (vs : List Value) (o : Nat) (w : World), (w.setCells b o vs).heap.size = w.heap.size
  | [], _, _ => rfl
  | v :: r, o, w => by rw [World.setCells, size_setCells' b r]; simp [World.setCell]

theorem Keeps.setCells {F : Nat → Prop} {a w : World} (h : Keeps F a w) {g : Nat} (hg : F g ∨ a.heap.size ≤ g) : ∀ (vs : List Value) (o : Nat), Keeps F a (w.setCells g o vs) := by
  intro vs
  induction vs generalizing w with
  | nil => intro o; exact h
  | cons v r ih => intro o; exact ih (h.setCell (p := ⟨g, o, none⟩) hg v) _

variable {S : Nat → Prop} {w : World} {v : Value} {s : ByteArray}

theorem OwnB.form (h : OwnB S w v s) : ∃ p cap, v = .slice p s.size cap := by
  rcases h with ⟨rfl, h⟩ | ⟨g, cap, rfl, _⟩
  · exact ⟨none, 0, by rw [h]⟩
  · exact ⟨_, _, rfl⟩

theorem OwnB.keep {F : Nat → Prop} {w' : World} (h : OwnB S w v s) (k : Keeps F w w') (hF : ∀ g, v.ownBlock = some g → ¬ F g) : OwnB S w' v s := by
  rcases h with h | ⟨g, cap, rfl, h1, h2, h3, h4, h5, h6, h7⟩
  · exact .inl h
  · have hg := hF g rfl
    have hc : ∀ j, w'.cell? ⟨g, j, none⟩ = w.cell? ⟨g, j, none⟩ := fun j => k.cell (p := ⟨g, j, none⟩) h2 hg
    have hf : ∀ j, w'.frozen? ⟨g, j, none⟩ = w.frozen? ⟨g, j, none⟩ := fun j => k.frozen (p := ⟨g, j, none⟩) h2 hg
    exact .inr ⟨g, cap, rfl, h1, Nat.lt_of_lt_of_le h2 k.size, h3, h4, fun j hj => by rw [hc]; exact h5 j hj, fun j hj => by rw [hf]; exact h6 j hj, fun j b hb => by rw [hc]; exact h7 j b hb⟩

theorem OwnB.mono {S' : Nat → Prop} (h : OwnB S w v s) (hS : ∀ g, v.ownBlock = some g → S g → S' g) : OwnB S' w v s := by
  rcases h with h | ⟨g, cap, rfl, h1, h2⟩
  · exact .inl h
  · exact .inr ⟨g, cap, rfl, hS g rfl h1, h2⟩

theorem OwnB.lt (h : OwnB S w v s) : ∀ g, v.ownBlock = some g → g < w.heap.size := by
  rcases h with ⟨rfl, _⟩ | ⟨g, cap, rfl, h1, h2, _⟩
  · intro g hg; simp [Value.ownBlock] at hg
  · intro g' hg; simp [Value.ownBlock] at hg; subst hg; exact h2

theorem OwnB.inS (h : OwnB S w v s) : ∀ g, v.ownBlock = some g → S g := by
  rcases h with ⟨rfl, _⟩ | ⟨g, cap, rfl, h1, h2, _⟩
  · intro g hg; simp [Value.ownBlock] at hg
  · intro g' hg; simp [Value.ownBlock] at hg; subst hg; exact h1

theorem OwnB.small (h : OwnB S w v s) : s.size ≤ maxLen := by
  rcases h with ⟨_, h⟩ | ⟨g, cap, rfl, h1, h2, h3, h4, _⟩
  · omega
  · omega

/-- []byte(s). -/
theorem OwnB.conv (w : World) (e : TypeId) (s : ByteArray) (hS : S w.heap.size) (hs : s.size ≤ maxLen) :
    OwnB S (Lib.bytesWorld w e s) (.slice (some ⟨w.heap.size, 0, none⟩) s.size (grownCap w s.size 0 e)) s ∧ Keeps NoB w (Lib.bytesWorld w e s) := by
  have hge : s.size ≤ grownCap w s.size 0 e := grownCap_ge w s.size 0 e
  have hle := grownCap_le_maxLen w s.size 0 e hs
  have hsz : (Lib.bytesCells w e s).size = grownCap w s.size 0 e := by
    simp [Lib.bytesCells]; rw [ByteArray.size] at hge ⊢; omega
  have hnew := Lib.bytesWorld_at_new w e s
  have hsize := Lib.bytesWorld_size w e s
  refine ⟨.inr ⟨_, _, rfl, hS, by omega, hge, hle, fun j hj => ?_, fun j hj => ?_, fun j b hb => ?_⟩, ⟨?_, ?_, ?_, by omega, fun k hk _ => Lib.bytesWorld_at_old w e s k hk⟩⟩
  · simp [World.cell?, hnew, hsz, hj]
  · simp only [World.frozen?, hnew, hsz]
    simp; omega
  · have hj := (List.getElem?_eq_some_iff.1 hb).1
    rw [Lib.bytesWorld_cell w e s j (by rw [Lib.size_eq]; exact hj)]
    simp [List.getD, hb]
  · simp [Lib.bytesWorld, World.freeze]; rfl
  · simp [Lib.bytesWorld, World.freeze]
  · simp [Lib.bytesWorld, World.freeze]; rfl

/-- string(v). -/
theorem OwnB.str {P : Program} (h : OwnB S w v s) (src dst e : TypeId) (hs : P.underlying src = some (.slice e)) (he : P.underlying e = some (.int .u8)) (hd : P.underlying dst = some .string) :
    (convert src dst v).run P w = .ok (.string s) w := by
  rcases h with ⟨rfl, h⟩ | ⟨g, cap, rfl, h1, h2, h3, h4, h5, h6, h7⟩
  · have : s = ⟨#[]⟩ := by
      exact ByteArray.ext (Array.eq_empty_of_size_eq_zero h)
    subst this
    rw [run_convert_bytes_string w src dst e none 0 0 hs he hd]
    rfl
  · have := run_convert_bytes_back (P := P) w src dst e ⟨g, 0, none⟩ cap s.data.toList hs he hd (fun j hj => by
      rw [add_lit, Nat.zero_add]
      exact h7 j _ (List.getElem?_eq_getElem hj))
    simpa using this

theorem getElem?_noughts (s : ByteArray) (k j : Nat) (b : UInt8) (h : (s ++ noughts k).data.toList[j]? = some b) : (j < s.size ∧ s.data.toList[j]? = some b) ∨ (s.size ≤ j ∧ j < s.size + k ∧ b = 0) := by
  have e : (s ++ noughts k).data.toList = s.data.toList ++ List.replicate k 0 := by simp [noughts]
  rw [e] at h
  by_cases hj : j < s.size
  · rw [List.getElem?_append_left (by rw [← Lib.size_eq]; exact hj)] at h
    exact .inl ⟨hj, h⟩
  · rw [List.getElem?_append_right (by rw [← Lib.size_eq]; omega), List.getElem?_replicate, ← Lib.size_eq] at h
    split at h
    · next h2 => exact .inr ⟨by omega, by omega, by cases h; rfl⟩
    · cases h

theorem zeroCells_u8 (k : Nat) : (Builtin.zeroCells (Value.int .u8 0).cells k).toList = List.replicate k (.int .u8 0) := by
  have h : (Value.int .u8 0).cells = #[.int .u8 0] := rfl
  rw [h]
  apply List.ext_getElem?
  intro j
  simp [Builtin.zeroCells, List.getElem?_replicate, List.getElem?_range]
  by_cases hj : j < k
  · simp [hj, Nat.mod_one]
  · simp [hj]

/-- append(v, make([]byte, k)...). -/
theorem OwnB.zeros {P : Program} {t tn e : TypeId} {i : TypeInfo} (ty : TypeId) (h : OwnB S w v s) (ht : P.underlying t = some (.slice e)) (htn : P.underlying tn = some (.int .i64)) (hi : P.info? e = some i) (hz : i.zero = some (.int .u8 0))
    (his : i.size = 1) (hib : i.bytes = 1) (k : Nat) (hk : s.size + k ≤ 4294967296) (hS : S w.heap.size) :
    ∃ v' w', (Builtin.append_ #[t, tn] ty #[v, .int .i64 (k : Int)]).run P w = .ok v' w' ∧ OwnB S w' v' (s ++ noughts k) ∧ Keeps (fun g => v.ownBlock = some g) w w' ∧
      (∀ g, v'.ownBlock = some g → v.ownBlock = some g ∨ w.heap.size ≤ g) := by
  have hw : IntKind.i64.wrap (k : Int) = k := by rw [IntKind.wrap_i64]; omega
  have hsz : (s ++ noughts k).size = s.size + k := by simp [noughts_size]
  have hlen : s.data.toList.length = s.size := (Lib.size_eq s).symm
  have hgrow : ∀ base cap, cap < s.size + k → (Builtin.firstCells i.size s.size (.slice base s.size cap)).run P w.drew = .ok (s.data.toList.map fun b => Value.int .u8 (b.toNat : Int)).toArray w.drew →
      v = .slice base s.size cap → s.size ≤ cap →
      ∃ v' w', (Builtin.append_ #[t, tn] ty #[v, .int .i64 (k : Int)]).run P w = .ok v' w' ∧ OwnB S w' v' (s ++ noughts k) ∧ Keeps (fun g => v.ownBlock = some g) w w' ∧
        (∀ g, v'.ownBlock = some g → v.ownBlock = some g ∨ w.heap.size ≤ g) := by
    intro base cap hlt hold hv hcap
    subst hv
    have hr := Lib.run_append_grow_zeros (P := P) w t tn ty e i _ .i64 .i64 ht htn hi hz base s.size cap _ hold k (by omega) (by rw [his]; decide) hlt (by omega) (by rw [hib]; omega) (growslice_fits hlt (by rw [hib]; omega))
    have hge := grownCap_ge w (s.size + k) cap e
    have hle := grownCap_le_maxLen w (s.size + k) cap e (by simp only [maxLen]; omega)
    refine ⟨_, _, hr, ?_, ((Keeps.refl _ w).drew).alloc _, fun g hg => by simp [Value.ownBlock] at hg; right; omega⟩
    generalize hC : ((s.data.toList.map fun b => Value.int .u8 (b.toNat : Int)).toArray ++ Builtin.zeroCells (Value.int .u8 0).cells k ++ Builtin.zeroCells (Value.int .u8 0).cells (grownCap w (s.size + k) cap e - (s.size + k))) = C
    have hCl : C.toList = (s.data.toList.map fun b => Value.int .u8 (b.toNat : Int)) ++ List.replicate k (.int .u8 0) ++ List.replicate (grownCap w (s.size + k) cap e - (s.size + k)) (.int .u8 0) := by
      rw [← hC]; simp only [Array.toList_append, zeroCells_u8]
    have hCs : C.size = grownCap w (s.size + k) cap e := by
      rw [← Array.length_toList, hCl]; simp only [List.length_append, List.length_map, List.length_replicate, hlen]; omega
    have hn := heap_alloc_new w.drew (.cells C e)
    refine .inr ⟨w.heap.size, _, by rw [hsz], hS, by simp, by omega, hle, fun j hj => ?_, fun j hj => ?_, fun j b hb => ?_⟩
    · have hn' : (w.drew.alloc (.cells C e)).heap[w.heap.size]? = some (.cells C e (0, 0)) := hn
      rw [cell_of_row _ _ _ C e (0, 0) hn']; simp [hCs, hj]
    · exact frozen_of_row _ _ _ C e hn
    · have hn' : (w.drew.alloc (.cells C e)).heap[w.heap.size]? = some (.cells C e (0, 0)) := hn
      rw [cell_of_row _ _ _ C e (0, 0) hn', ← Array.getElem?_toList, hCl]
      rcases getElem?_noughts s k j b hb with ⟨h1, h2⟩ | ⟨h1, h2, rfl⟩
      · rw [List.append_assoc, List.getElem?_append_left (by simp only [List.length_map, hlen]; exact h1), List.getElem?_map, h2]; rfl
      · rw [List.getElem?_append_left (by simp only [List.length_append, List.length_map, List.length_replicate, hlen]; omega), List.getElem?_append_right (by simp only [List.length_map, hlen]; exact h1), List.getElem?_replicate, if_pos (by simp only [List.length_map, hlen]; omega)]; rfl
  rcases h with ⟨rfl, h⟩ | ⟨g, cap, rfl, h1, h2, h3, h4, h5, h6, h7⟩
  · have : s = ⟨#[]⟩ := by
      exact ByteArray.ext (Array.eq_empty_of_size_eq_zero h)
    subst this
    by_cases h0 : k = 0
    · subst h0
      refine ⟨.slice none 0 0, w, ?_, .inl ⟨rfl, hsz⟩, Keeps.refl _ w, fun g hg => .inl hg⟩
      have hw0 : IntKind.i64.wrap 0 = 0 := by decide
      simp [Builtin.append_, run_underlying ht, run_underlying htn, sizeOf, typeInfo, hi, hib, asInt, asIntOf, hw0, Result.andThen]
    · exact hgrow none 0 (by show 0 < 0 + k; omega) (run_firstCells_none _ _ _ _ _) rfl (Nat.le_refl 0)
  · by_cases hroom : s.size + k ≤ cap
    · refine ⟨.slice (some ⟨g, 0, none⟩) (s.size + k) cap, w.setCells g s.size (List.replicate k (.int .u8 0)), ?_, .inr ⟨g, cap, by rw [hsz], h1, by rw [size_setCells']; exact h2, by omega, h4, fun j hj => World.isSome_setCells _ _ _ _ _ (h5 j hj), fun j hj => by rw [World.frozen?_setCells]; exact h6 j hj, fun j b hb => ?_⟩, ?_, fun g hg => .inl hg⟩
      · have hst := run_storeCells_cells (P := P) g s.size (List.replicate k (.int .u8 0)) 0 w (fun j hj => h5 _ (by simp at hj; omega)) (fun j hj => h6 _ (by simp at hj; omega)) (fun v hv => by rw [(List.mem_replicate.1 hv).2]; rfl)
        rw [Nat.add_zero] at hst
        have h48i : ¬ (281474976710656 < (k : Int)) := by omega
        have hneg : ¬ ((k : Int) < 0) := by omega
        by_cases h0 : k = 0
        · subst h0
          have hw0 : IntKind.i64.wrap 0 = 0 := by decide
          have hnc : ¬ cap < s.size := by omega
          simp [Builtin.append_, run_underlying ht, run_underlying htn, sizeOf, typeInfo, zeroValue, hi, hz, hw0, hnc, his, hib, asInt, asIntOf, hw, hneg, h48i, hroom, Result.andThen, add_lit, World.setCells, storeCells]
        · simp [Builtin.append_, run_underlying ht, run_underlying htn, sizeOf, typeInfo, zeroValue, hi, hz, his, hib, asInt, asIntOf, hw, hneg, h48i, h0, hroom, Result.andThen, add_lit, zeroCells_u8, hst]
      · rcases getElem?_noughts s k j b hb with ⟨h8, h9⟩ | ⟨h8, h9, rfl⟩
        · rw [World.cell?_setCells_out _ _ _ _ _ (fun _ _ => .inl h8)]; exact h7 j b h9
        · have := World.cell?_setCells_in g (List.replicate k (.int .u8 0)) s.size w (fun j hj => h5 _ (by simp at hj; omega)) (j - s.size) (by simp; omega)
          rw [show s.size + (j - s.size) = j by omega] at this
          rw [this]; simp
      · exact Keeps.setCells (g := g) (Keeps.refl (fun g' => (Value.slice (some ⟨g, 0, none⟩) s.size cap).ownBlock = some g') w) (Or.inl (by rfl)) _ _
    · exact hgrow _ cap (by omega) (run_firstCells_some w.drew i.size s.size ⟨g, 0, none⟩ s.size cap _ (by rw [his, List.length_map, hlen, Nat.mul_one]) (fun j u hu => by
        rw [List.getElem?_map] at hu
        cases hb : s.data.toList[j]? with
        | none => rw [hb] at hu; cases hu
        | some b => rw [hb] at hu; rw [add_lit, Nat.zero_add, World.cell?_drew, h7 j b hb]; exact hu)) rfl h3

/-- The bytes s with t laid over them at a place. -/
def over (s : ByteArray) (at' : Nat) (t : ByteArray) : ByteArray := ⟨(s.data.toList.take at' ++ t.data.toList ++ s.data.toList.drop (at' + t.size)).toArray⟩

theorem over_size {s t : ByteArray} {a : Nat} (h : a + t.size ≤ s.size) : (over s a t).size = s.size := by
  have h1 := Lib.size_eq s
  have h2 := Lib.size_eq t
  show (s.data.toList.take a ++ t.data.toList ++ s.data.toList.drop (a + t.size)).toArray.size = s.size
  simp only [List.size_toArray, List.length_append, List.length_take, List.length_drop]
  omega

theorem over_get {s t : ByteArray} {a : Nat} (h : a + t.size ≤ s.size) (j : Nat) : (over s a t).data.toList[j]? = if a ≤ j ∧ j < a + t.size then t.data.toList[j - a]? else s.data.toList[j]? := by
  have h1 := Lib.size_eq s
  have h2 := Lib.size_eq t
  show (s.data.toList.take a ++ t.data.toList ++ s.data.toList.drop (a + t.size))[j]? = _
  have l1 : (s.data.toList.take a).length = a := by simp only [List.length_take]; omega
  by_cases c1 : j < a
  · rw [if_neg (by omega), List.append_assoc, List.getElem?_append_left (by rw [l1]; exact c1), List.getElem?_take, if_pos c1]
  · by_cases c2 : j < a + t.size
    · rw [if_pos (by omega), List.getElem?_append_left (by rw [List.length_append, l1]; omega), List.getElem?_append_right (by rw [l1]; omega), l1]
    · rw [if_neg (by omega), List.getElem?_append_right (by rw [List.length_append, l1]; omega), List.length_append, l1, List.getElem?_drop]
      congr 1; omega

/-- copy(v[at:], t), t a text. -/
theorem OwnB.over {P : Program} {t tn e : TypeId} {i : TypeInfo} (ty : TypeId) (h : OwnB S w v s) (ht : P.underlying t = some (.slice e)) (hi : P.info? e = some i) (his : i.size = 1) {p : Option Addr} {cap : Nat} (hv : v = .slice p s.size cap)
    (a : Nat) (x : ByteArray) (h0 : 0 < x.size) (hx : a + x.size ≤ s.size) :
    ∃ w', (Builtin.copy_ #[t, tn] ty #[.slice (subAt 1 p cap a) (s.size - a) (cap - a), .string x]).run P w = .ok (goInt x.size) w' ∧ OwnB S w' v (over s a x) ∧ Keeps (fun g => v.ownBlock = some g) w w' := by
  rcases h with ⟨rfl, h⟩ | ⟨g, cap, rfl, h1, h2, h3, h4, h5, h6, h7⟩
  · omega
  · cases hv
    have hsub : subAt 1 (some ⟨g, 0, none⟩) cap a = some ⟨g, a, none⟩ := by
      unfold subAt
      rw [if_neg (by omega)]
      simp [add_lit]
    have hlen : x.data.toList.length = x.size := (Lib.size_eq x).symm
    have hmin : Nat.min x.size (s.size - a) = x.size := Nat.min_eq_left (by omega)
    have htake : (x.data.toList.map fun b => Value.int .u8 (b.toNat : Int)).take x.size = x.data.toList.map fun b => Value.int .u8 (b.toNat : Int) := List.take_of_length_le (by rw [List.length_map, hlen]; exact Nat.le_refl _)
    have hst := run_storeCells_cells (P := P) g a (x.data.toList.map fun b => Value.int .u8 (b.toNat : Int)) 0 w (fun j hj => h5 _ (by rw [List.length_map, hlen] at hj; omega)) (fun j hj => h6 _ (by rw [List.length_map, hlen] at hj; omega))
      (fun v hv => by obtain ⟨b, _, rfl⟩ := List.mem_map.1 hv; rfl)
    rw [Nat.add_zero] at hst
    refine ⟨w.setCells g a (x.data.toList.map fun b => Value.int .u8 (b.toNat : Int)), ?_, .inr ⟨g, cap, by rw [over_size hx], h1, by rw [size_setCells']; exact h2, by rw [over_size hx]; exact h3, h4, fun j hj => World.isSome_setCells _ _ _ _ _ (h5 j hj), fun j hj => by rw [World.frozen?_setCells]; exact h6 j hj, fun j b hb => ?_⟩, Keeps.setCells (g := g) (Keeps.refl (fun g' => (Value.slice (some ⟨g, 0, none⟩) s.size cap).ownBlock = some g') w) (Or.inl (by rfl)) _ _⟩
    · rw [hsub]
      simp [Builtin.copy_, run_underlying ht, Builtin.lenOf, Builtin.firstCells, sizeOf, typeInfo, hi, hmin, htake, Result.andThen, hst]
    · rw [over_get hx] at hb
      split at hb
      · next c =>
        have := World.cell?_setCells_in g (x.data.toList.map fun b => Value.int .u8 (b.toNat : Int)) a w (fun j hj => h5 _ (by rw [List.length_map, hlen] at hj; omega)) (j - a) (by rw [List.length_map, hlen]; omega)
        rw [show a + (j - a) = j by omega] at this
        rw [this]
        obtain ⟨hl, he⟩ := List.getElem?_eq_some_iff.1 hb
        rw [List.getElem_map, he]
      · next c => rw [World.cell?_setCells_out _ _ _ _ _ (fun _ _ => by simp only [List.length_map, hlen]; omega)]; exact h7 j b hb

end Go.Proofs.YtfomkkoecelakaaDoor
