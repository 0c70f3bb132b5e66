/-
  Variables of several cells, small laws of memory, for seats without a disk.
-/
import Derived.Test.YtimidmogcbapnaaGreatDoorG01
import Derived.Test.YtimidmogcbapnaaGreatDoorProg
import Derived.Shelf.Strings.Repeat
import Derived.Lib.Builder
import Derived.Lib.AppendStr
import Derived.Lib.ConvBytes
import Derived.Laws.IdiomStrings
import Derived.Maps.OwnOps
import Derived.Maps.OwnSet
import Derived.Deep.MidRow
import Derived.Deep.Upon
import Derived.StillTailTactics
import Derived.Lib.AppendZerosOnto

set_option linter.unusedSimpArgs false
set_option linter.unusedVariables false
set_option maxRecDepth 100000
namespace Go.Proofs.YtimidmogcbapnaaGreatDoor
open Go Go.RowKit
theorem elemOf {α : Type} {P : Program} {E : Enc α} {t e : TypeId} {z : α} {bytes : Nat} (zv : Value) (hu : P.underlying t = some (.slice e))
 (h : (P.info? e).map (fun i => (i.zero, i.size, i.bytes)) = some (some zv, E.k, bytes)) (hz : zv.cells.toList = E.enc z) : ElemT P E t e z bytes := by
 refine ⟨hu, ?_⟩
 cases hi : P.info? e with
 | none => rw [hi] at h; cases h
 | some i => rw [hi] at h; simp at h; exact ⟨i, rfl, h.2.1, h.2.2, zv, h.1, hz⟩
theorem kset (w : World) (p : Addr) (u : Value) : Keeps (fun x => x = p.block) w (w.setCell p u) := Keeps.setCell (p := p) (Keeps.refl (fun x => x = p.block) w) (Or.inl rfl) u
theorem ba_eq {a b : ByteArray} (h : a.data.toList = b.data.toList) : a = b := ByteArray.ext (Array.toList_inj.1 h)
section
variable {w w' : World} {B : Nat} {l : List Value}
end
set_option maxHeartbeats 4000000
def encU8 : Enc UInt8 where
 enc := fun c => [.int .u8 (c.toNat : Int)]
 k := 1
 pos := by decide
 len := fun _ => rfl
 one := fun x v hv => by simp at hv; subst hv; rfl
theorem tU8 : ElemT Tryz.prog encU8 81 5 0 1 :=
 elemOf (.int .u8 0) Tryz.underlying81 (by kernel_rfl) rfl
section
variable {S : Nat -> Prop} {w w' : World} {b : Nat} {s : List UInt8}
end
theorem conv_sl (w : World) (s : ByteArray) (hs : s.size <= maxLen) :
 SlAt encU8 (fun g => g = w.heap.size) (Lib.bytesWorld w 5 s) (some ⟨w.heap.size, 0, none⟩) (grownCap w s.size 0 5) s.data.toList ∧ Keeps NoB w (Lib.bytesWorld w 5 s) := by
 have hge : s.size <= grownCap w s.size 0 5 := grownCap_ge w s.size 0 5
 have hle := grownCap_le_maxLen w s.size 0 5 hs
 have hsize := Lib.bytesWorld_size w 5 s
 have hl : s.data.toList.length = s.size := len_data s
 refine ⟨⟨by rw [hl]; exact hge, hle, (fun h => by cases h), (fun _ a ha => by cases ha; rfl), fun _ => ⟨w.heap.size, 0, rfl, rfl, by rw [hsize]; omega, fun j hj => ?_⟩⟩, ?_⟩
 ·have hj2 : j < s.data.toList.length := by simpa [encU8] using hj
  rw [Nat.zero_add, Lib.bytesWorld_cell w 5 s j hj2]
  have := Enc.flat_get encU8 s.data.toList j 0 (by decide)
  simp only [show encU8.k = 1 from rfl, Nat.mul_one, Nat.add_zero] at this
  rw [this, List.getElem?_eq_getElem hj2]
  simp [List.getD, List.getElem?_eq_getElem hj2, encU8]
 ·refine ⟨?_, ?_, ?_, by omega, fun k hk _ => Lib.bytesWorld_at_old w 5 s k hk⟩
  ·simp [Lib.bytesWorld, World.freeze]; rfl
  ·simp [Lib.bytesWorld, World.freeze]
  ·simp [Lib.bytesWorld, World.freeze]; rfl
theorem own_str {S : Nat -> Prop} {w : World} {v : Value} {l : List UInt8} (h : Own encU8 5 S w v l) : (convert 81 9 v).run Tryz.prog w = .ok (.string ⟨l.toArray⟩) w := by
 rcases h.cases with ⟨rfl, rfl⟩ | ⟨g, cap, cur, rfl, _, hg, hcap, hmax, hsz, htk⟩
 ·rw [run_convert_bytes_string w 81 9 5 none 0 0 Tryz.underlying81 Tryz.underlying5 Tryz.underlying9]
  rfl
 ·have := run_convert_bytes_back (P := Tryz.prog) w 81 9 5 ⟨g, 0, none⟩ cap l Tryz.underlying81 Tryz.underlying5 Tryz.underlying9 (fun j hj => by
   rw [add_lit, Nat.zero_add, cell_of_row w g _ cur 5 (0, 0) hg, <- Array.getElem?_toList]
   have h1 := Enc.flat_get encU8 l j 0 (by decide)
   simp only [show encU8.k = 1 from rfl, Nat.mul_one, Nat.add_zero] at h1 htk
   rw [<- htk, List.getElem?_take, if_pos hj] at h1
   rw [h1, List.getElem?_eq_getElem hj]
   rfl)
  simpa using this
theorem sub_list (s : ByteArray) (k : Nat) : (s.extract k s.size).data.toList = s.data.toList.drop k := by
 rw [data_extract, List.take_of_length_le (by rw [len_data]; exact Nat.le_refl _)]
end Go.Proofs.YtimidmogcbapnaaGreatDoor
namespace Go.Proofs.YtimidmogcbapnaaGreatDoor
open Go.RowKit
abbrev Kv := List (Int × Value)
def kvGet (l : Kv) (k : Int) : Option Value := (l.find? fun x => decide (x.1 = k)).map (·.2)
def kvDel (l : Kv) (k : Int) : Kv := l.filter fun x => !decide (x.1 = k)
structure IMap (w : World) (b : Nat) (l : Kv) : Prop where
 blk : ∃ es clock, w.heap[b]? = some (.map es clock) ∧ es.toList.map (fun e => (e.key, e.val)) = l.map fun x => (Value.int .i64 x.1, x.2)
 nodup : (l.map (·.1)).Nodup
theorem IMap.lt {w : World} {b : Nat} {l : Kv} (h : IMap w b l) : b < w.heap.size := by
 obtain ⟨es, c, hb, _⟩ := h.blk
 exact lt_of_block hb
theorem IMap.keep {F : Nat -> Prop} {w w' : World} {b : Nat} {l : Kv} (h : IMap w b l) (k : Keeps F w w') (hF : ¬ F b) : IMap w' b l := by
 obtain ⟨es, c, hb, he⟩ := h.blk
 exact ⟨⟨es, c, (k.block b h.lt hF).trans hb, he⟩, h.nodup⟩
theorem kvDel_none {l : Kv} {k : Int} (h : ∀ x ∈ l, x.1 ≠ k) : kvDel l k = l := List.filter_eq_self.2 fun x hx => by simpa using h x hx
theorem kvGet_none {l : Kv} {k : Int} : kvGet l k = none ↔ ∀ x ∈ l, x.1 ≠ k := by
 simp [kvGet]
theorem findNow_int {es : List MapEntry} {l : Kv} (he : es.map (fun e => (e.key, e.val)) = l.map fun x => (Value.int .i64 x.1, x.2)) (hn : (l.map (·.1)).Nodup) (k : Int) (i : Nat) :
 (kvGet l k = none ∧ Instr.findNow (.int .i64) (.int .i64 k) es i = some none) ∨
 ∃ j v, kvGet l k = some v ∧ Instr.findNow (.int .i64) (.int .i64 k) es i = some (some (i + j, v)) ∧ j < es.length ∧ (es.eraseIdx j).map (fun e => (e.key, e.val)) = (kvDel l k).map fun x => (Value.int .i64 x.1, x.2) := by
 induction es generalizing l i with
 | nil =>
   cases l with
   | nil => exact .inl ⟨rfl, rfl⟩
   | cons _ _ => simp at he
 | cons e es ih =>
   cases l with
   | nil => simp at he
   | cons a l =>
     simp only [List.map_cons, List.cons.injEq, Prod.mk.injEq] at he
     obtain ⟨⟨hk, hv⟩, he⟩ := he
     rw [List.map_cons, List.nodup_cons] at hn
     by_cases ea : a.1 = k
     ·subst ea
      refine .inr ⟨0, a.2, by simp [kvGet], ?_, by simp, ?_⟩
      ·simp [Instr.findNow, Instr.sameNow, hk, hv]
      ·have hd : kvDel (a :: l) a.1 = l := by
        unfold kvDel
        rw [List.filter_cons]
        simp only [decide_true, Bool.not_true, Bool.false_eq_true, if_false]
        exact kvDel_none fun x hx e => hn.1 (List.mem_map.2 ⟨x, hx, e⟩)
       rw [hd]
       simpa using he
     ·have hsk : Instr.findNow (.int .i64) (.int .i64 k) (e :: es) i = Instr.findNow (.int .i64) (.int .i64 k) es (i + 1) := by
       have hb : (k == a.1) = false := beq_false_of_ne fun h => ea h.symm
       simp only [Instr.findNow, Instr.sameNow, hk, if_true, hb]
      have hg : kvGet (a :: l) k = kvGet l k := by simp [kvGet, List.find?_cons, ea]
      have hd : kvDel (a :: l) k = a :: kvDel l k := by simp [kvDel, List.filter_cons, ea]
      rcases ih he hn.2 (i + 1) with ⟨h1, h2⟩ | ⟨j, v, h1, h2, h3, h4⟩
      ·exact .inl ⟨hg.trans h1, hsk.trans h2⟩
      ·refine .inr ⟨j + 1, v, hg.trans h1, hsk.trans (h2.trans (by rw [Nat.add_right_comm, Nat.add_assoc])), by simpa using h3, ?_⟩
       rw [hd]
       simpa [hk, hv] using h4
section
variable {P : Program} {t kt et : TypeId} {w : World} {b : Nat} {l : Kv}
theorem IMap.lookup (h : IMap w b l) (ht : P.underlying t = some (.map kt et)) (hk : P.underlying kt = some (.int .i64)) {z : Value} (hz : (zeroValue et).run P w = .ok z w) (k : Int) :
 (Instr.lookup t (.map (some b)) (.int .i64 k) false).run P w = .ok ((kvGet l k).getD z) w := by
 obtain ⟨es, c, hb, he⟩ := h.blk
 have hck := fun e => MapKept.run_checkKey (w := w) hk (k := .int .i64 k) (by simp [MapKept.IsKey]) e 9999
 rcases findNow_int he h.nodup k 0 with ⟨h1, h2⟩ | ⟨j, v, h1, h2, _, _⟩
 ·simp [Instr.lookup, run_underlying ht, MapKept.run_getObj_map hb, hck, MapKept.run_findKey hk h2, h1, hz, Result.andThen]
 ·simp [Instr.lookup, run_underlying ht, MapKept.run_getObj_map hb, hck, MapKept.run_findKey hk h2, h1, Result.andThen]
theorem IMap.update (h : IMap w b l) (ht : P.underlying t = some (.map kt et)) (hk : P.underlying kt = some (.int .i64)) (k : Int) (v : Value) (hno : kvGet l k = none) :
 ∃ w', (Instr.mapUpdate t (.map (some b)) (.int .i64 k) v).run P w = .ok () w' ∧ IMap w' b (l ++ [(k, v)]) ∧ Keeps (fun g => g = b) w w' := by
 obtain ⟨es, c, hb, he⟩ := h.blk
 have hck := fun e => MapKept.run_checkKey (w := w) hk (k := .int .i64 k) (by simp [MapKept.IsKey]) e 9999
 rcases findNow_int he h.nodup k 0 with ⟨h1, h2⟩ | ⟨j, v', h1, h2, _, _⟩
 ·refine ⟨ChangeMaps.setBlock w b (.map (es.push { key := .int .i64 k, val := v, born := c }) (c + 1)), ?_, ⟨⟨_, _, ChangeMaps.heap_setBlock_same hb _, by simp [he]⟩, ?_⟩, ⟨rfl, rfl, rfl, by simp [ChangeMaps.setBlock], fun i _ hi => ChangeMaps.heap_setBlock_other hb _ hi⟩⟩
  ·simp [Instr.mapUpdate, run_underlying ht, MapKept.run_getObj_map hb, hck, MapKept.run_findKey hk h2, MapKept.run_setObj_map _ hb, Result.andThen, ChangeMaps.setBlock]
  ·rw [List.map_append, List.nodup_append]
   refine ⟨h.nodup, by simp, fun a ha b hb => ?_⟩
   simp only [List.map_cons, List.map_nil, List.mem_singleton] at hb
   subst hb
   obtain ⟨x, hx, rfl⟩ := List.mem_map.1 ha
   exact kvGet_none.1 h1 x hx
 ·rw [hno] at h1; cases h1
theorem IMap.delete (h : IMap w b l) (ht : P.underlying t = some (.map kt et)) (hk : P.underlying kt = some (.int .i64)) (k : Int) (kt' ty : TypeId) :
 ∃ w', (Builtin.delete_ #[t, kt'] ty #[.map (some b), .int .i64 k]).run P w = .ok (.tuple #[]) w' ∧ IMap w' b (kvDel l k) ∧ Keeps (fun g => g = b) w w' := by
 obtain ⟨es, c, hb, he⟩ := h.blk
 have hck := fun e => MapKept.run_checkKey (w := w) hk (k := .int .i64 k) (by simp [MapKept.IsKey]) e 9999
 have hnd : ((kvDel l k).map (·.1)).Nodup := List.Nodup.sublist (List.Sublist.map _ List.filter_sublist) h.nodup
 rcases findNow_int he h.nodup k 0 with ⟨h1, h2⟩ | ⟨j, v, h1, h2, hj, h4⟩
 ·refine ⟨ChangeMaps.setBlock w b (.map es c), ?_, ⟨⟨_, _, ChangeMaps.heap_setBlock_same hb _, ?_⟩, hnd⟩, ⟨rfl, rfl, rfl, by simp [ChangeMaps.setBlock], fun i _ hi => ChangeMaps.heap_setBlock_other hb _ hi⟩⟩
  ·simp [Builtin.delete_, run_underlying ht, MapKept.run_getObj_map hb, hck, MapKept.run_findKey hk h2, MapKept.run_setObj_map _ hb, Result.andThen, ChangeMaps.setBlock]
  ·rw [kvDel_none (kvGet_none.1 h1)]; exact he
 ·refine ⟨ChangeMaps.setBlock w b (.map (es.eraseIdxIfInBounds j) c), ?_, ⟨⟨_, _, ChangeMaps.heap_setBlock_same hb _, ?_⟩, hnd⟩, ⟨rfl, rfl, rfl, by simp [ChangeMaps.setBlock], fun i _ hi => ChangeMaps.heap_setBlock_other hb _ hi⟩⟩
  ·simp [Builtin.delete_, run_underlying ht, MapKept.run_getObj_map hb, hck, MapKept.run_findKey hk h2, MapKept.run_setObj_map _ hb, Result.andThen, ChangeMaps.setBlock]
  ·rw [<- h4]
   have hj' : j < es.size := by simpa using hj
   simp [Array.eraseIdxIfInBounds, hj', Array.toList_eraseIdx]
theorem IMap.len (h : IMap w b l) (ht : P.underlying t = some (.map kt et)) (ty : TypeId) : (Builtin.len_ #[t] ty #[.map (some b)]).run P w = .ok (goInt l.length) w := by
 obtain ⟨es, c, hb, he⟩ := h.blk
 have : es.size = l.length := by have := congrArg List.length he; simpa using this
 simp [Builtin.len_, run_underlying ht, MapKept.run_getObj_map hb, Result.andThen, this]
theorem IMap.made (w : World) : IMap (w.alloc (.map #[] 0)) w.heap.size [] := ⟨⟨#[], 0, heap_alloc_new w _, rfl⟩, by simp⟩
end
theorem wpl_mapUpdate {P : Program} {w : World} {ops : Array Oper} {rest : List Oper} {o : Oper} {a : Act} {Q : Exit -> Act -> World -> Prop} (hg : o.guard = none) (m x v : Operand) (t : TypeId) (hop : o.op = Op.mapUpdate t m x v)
 {kt et : TypeId} (ht : P.underlying t = some (.map kt et)) (hk : P.underlying kt = some (.int .i64)) {b : Nat} {l : Kv} (hm : a.eval m = .map (some b)) (h : IMap w b l) {k : Int} (hx : a.eval x = .int .i64 k) {val : Value} (hv : a.eval v = val)
 (hno : kvGet l k = none) (hK : ∀ w', IMap w' b (l ++ [(k, val)]) -> Keeps (fun g => g = b) w w' -> wpList P ops Q rest (a.put o.dst undef) w') :
 wpList P ops Q (o :: rest) a w := by
 refine wpList_plain hg fun K' hK' => ?_
 obtain ⟨w', hrun, r1, r2⟩ := h.update ht hk k val hno
 unfold Oper.wp
 simp [execOp, hop, hm, hx, hv, hrun, Result.andThen]
 exact hK' _ _ (hK w' r1 r2)
theorem wpl_delete {P : Program} {w : World} {ops : Array Oper} {rest : List Oper} {o : Oper} {a : Act} {Q : Exit -> Act -> World -> Prop} (hg : o.guard = none) (m x : Operand) (t kt' : TypeId)
 (hop : o.op = Op.call { callee := Callee.builtin Builtin.delete, args := #[m, x], argTypes := #[t, kt'] })
 {kt et : TypeId} (ht : P.underlying t = some (.map kt et)) (hk : P.underlying kt = some (.int .i64)) {b : Nat} {l : Kv} (hm : a.eval m = .map (some b)) (h : IMap w b l) {k : Int} (hx : a.eval x = .int .i64 k)
 (hK : ∀ w', IMap w' b (kvDel l k) -> Keeps (fun g => g = b) w w' -> wpList P ops Q rest (a.put o.dst (.tuple #[])) w') :
 wpList P ops Q (o :: rest) a w := by
 refine wpList_plain hg fun K' hK' => ?_
 obtain ⟨w', hrun, r1, r2⟩ := h.delete ht hk k kt' o.type
 unfold Oper.wp
 simp [execOp, hop, resolve, invoke, builtin, hm, hx, hrun, Result.andThen]
 exact hK' _ _ (hK w' r1 r2)
def noughts (k : Nat) : ByteArray := ⟨Array.replicate k 0⟩
theorem noughts_size (k : Nat) : (noughts k).size = k := by simp [noughts, ByteArray.size]
def OwnB (S : Nat -> Prop) (w : World) (v : Value) (s : ByteArray) : Prop :=
 (v = .slice none 0 0 ∧ s.size = 0) ∨
 ∃ g cap, v = .slice (some ⟨g, 0, none⟩) s.size cap ∧ S g ∧ g < w.heap.size ∧ s.size <= cap ∧ cap <= maxLen ∧ (∀ j, j < cap -> (w.cell? ⟨g, j, none⟩).isSome = true) ∧
   (∀ j, j < cap -> w.frozen? ⟨g, j, none⟩ = false) ∧ ∀ j b, s.data.toList[j]? = some b -> w.cell? ⟨g, j, none⟩ = some (.int .u8 (b.toNat : Int))
theorem OwnB.nil (S : Nat -> Prop) (w : World) : OwnB S w (.slice none 0 0) ⟨#[]⟩ := .inl ⟨rfl, rfl⟩
theorem size_setCells' (b : Nat) : ∀ (vs : List Value) (o : Nat) (w : World), (w.setCells b o vs).heap.size = w.heap.size
 | [], _, _ => rfl
 | v :: r, o, w => by rw [World.setCells, size_setCells' b r]; simp [World.setCell]
theorem Keeps.setCells {F : Nat -> Prop} {a w : World} (h : Keeps F a w) {g : Nat} (hg : F g ∨ a.heap.size <= g) : ∀ (vs : List Value) (o : Nat), Keeps F a (w.setCells g o vs) := by
 intro vs
 induction vs generalizing w with
 | nil => intro o; exact h
 | cons v r ih => intro o; exact ih (h.setCell (p := ⟨g, o, none⟩) hg v) _
variable {S : Nat -> Prop} {w : World} {v : Value} {s : ByteArray}
theorem OwnB.form (h : OwnB S w v s) : ∃ p cap, v = .slice p s.size cap := by
 rcases h with ⟨rfl, h⟩ | ⟨g, cap, rfl, _⟩
 ·exact ⟨none, 0, by rw [h]⟩
 ·exact ⟨_, _, rfl⟩
theorem OwnB.keep {F : Nat -> Prop} {w' : World} (h : OwnB S w v s) (k : Keeps F w w') (hF : ∀ g, v.ownBlock = some g -> ¬ F g) : OwnB S w' v s := by
 rcases h with h | ⟨g, cap, rfl, h1, h2, h3, h4, h5, h6, h7⟩
 ·exact .inl h
 ·have hg := hF g rfl
  have hc : ∀ j, w'.cell? ⟨g, j, none⟩ = w.cell? ⟨g, j, none⟩ := fun j => k.cell (p := ⟨g, j, none⟩) h2 hg
  have hf : ∀ j, w'.frozen? ⟨g, j, none⟩ = w.frozen? ⟨g, j, none⟩ := fun j => k.frozen (p := ⟨g, j, none⟩) h2 hg
  exact .inr ⟨g, cap, rfl, h1, Nat.lt_of_lt_of_le h2 k.size, h3, h4, fun j hj => by rw [hc]; exact h5 j hj, fun j hj => by rw [hf]; exact h6 j hj, fun j b hb => by rw [hc]; exact h7 j b hb⟩
theorem OwnB.mono {S' : Nat -> Prop} (h : OwnB S w v s) (hS : ∀ g, v.ownBlock = some g -> S g -> S' g) : OwnB S' w v s := by
 rcases h with h | ⟨g, cap, rfl, h1, h2⟩
 ·exact .inl h
 ·exact .inr ⟨g, cap, rfl, hS g rfl h1, h2⟩
theorem OwnB.lt (h : OwnB S w v s) : ∀ g, v.ownBlock = some g -> g < w.heap.size := by
 rcases h with ⟨rfl, _⟩ | ⟨g, cap, rfl, h1, h2, _⟩
 ·intro g hg; simp [Value.ownBlock] at hg
 ·intro g' hg; simp [Value.ownBlock] at hg; subst hg; exact h2
theorem OwnB.small (h : OwnB S w v s) : s.size <= maxLen := by
 rcases h with ⟨_, h⟩ | ⟨g, cap, rfl, h1, h2, h3, h4, _⟩
 ·omega
 ·omega
theorem OwnB.conv (w : World) (e : TypeId) (s : ByteArray) (hS : S w.heap.size) (hs : s.size <= maxLen) :
 OwnB S (Lib.bytesWorld w e s) (.slice (some ⟨w.heap.size, 0, none⟩) s.size (grownCap w s.size 0 e)) s ∧ Keeps NoB w (Lib.bytesWorld w e s) := by
 have hge : s.size <= grownCap w s.size 0 e := grownCap_ge w s.size 0 e
 have hle := grownCap_le_maxLen w s.size 0 e hs
 have hsz : (Lib.bytesCells w e s).size = grownCap w s.size 0 e := by
  simp [Lib.bytesCells]; rw [ByteArray.size] at hge ⊢; omega
 have hnew := Lib.bytesWorld_at_new w e s
 have hsize := Lib.bytesWorld_size w e s
 refine ⟨.inr ⟨_, _, rfl, hS, by omega, hge, hle, fun j hj => ?_, fun j hj => ?_, fun j b hb => ?_⟩, ⟨?_, ?_, ?_, by omega, fun k hk _ => Lib.bytesWorld_at_old w e s k hk⟩⟩
 ·simp [World.cell?, hnew, hsz, hj]
 ·simp only [World.frozen?, hnew, hsz]
  simp; omega
 ·have hj := (List.getElem?_eq_some_iff.1 hb).1
  rw [Lib.bytesWorld_cell w e s j (by rw [Lib.size_eq]; exact hj)]
  simp [List.getD, hb]
 ·simp [Lib.bytesWorld, World.freeze]; rfl
 ·simp [Lib.bytesWorld, World.freeze]
 ·simp [Lib.bytesWorld, World.freeze]; rfl
theorem OwnB.str {P : Program} (h : OwnB S w v s) (src dst e : TypeId) (hs : P.underlying src = some (.slice e)) (he : P.underlying e = some (.int .u8)) (hd : P.underlying dst = some .string) :
 (convert src dst v).run P w = .ok (.string s) w := by
 rcases h with ⟨rfl, h⟩ | ⟨g, cap, rfl, h1, h2, h3, h4, h5, h6, h7⟩
 ·have : s = ⟨#[]⟩ := by
   exact ByteArray.ext (Array.eq_empty_of_size_eq_zero h)
  subst this
  rw [run_convert_bytes_string w src dst e none 0 0 hs he hd]
  rfl
 ·have := run_convert_bytes_back (P := P) w src dst e ⟨g, 0, none⟩ cap s.data.toList hs he hd (fun j hj => by
   rw [add_lit, Nat.zero_add]
   exact h7 j _ (List.getElem?_eq_getElem hj))
  simpa using this
theorem getElem?_noughts (s : ByteArray) (k j : Nat) (b : UInt8) (h : (s ++ noughts k).data.toList[j]? = some b) : (j < s.size ∧ s.data.toList[j]? = some b) ∨ (s.size <= j ∧ j < s.size + k ∧ b = 0) := by
 have e : (s ++ noughts k).data.toList = s.data.toList ++ List.replicate k 0 := by simp [noughts]
 rw [e] at h
 by_cases hj : j < s.size
 ·rw [List.getElem?_append_left (by rw [<- Lib.size_eq]; exact hj)] at h
  exact .inl ⟨hj, h⟩
 ·rw [List.getElem?_append_right (by rw [<- Lib.size_eq]; omega), List.getElem?_replicate, <- Lib.size_eq] at h
  split at h
  ·next h2 => exact .inr ⟨by omega, by omega, by cases h; rfl⟩
  ·cases h
theorem zeroCells_u8 (k : Nat) : (Builtin.zeroCells (Value.int .u8 0).cells k).toList = List.replicate k (.int .u8 0) := by
 have h : (Value.int .u8 0).cells = #[.int .u8 0] := rfl
 rw [h]
 apply List.ext_getElem?
 intro j
 simp [Builtin.zeroCells, List.getElem?_replicate, List.getElem?_range]
 by_cases hj : j < k
 ·simp [hj, Nat.mod_one]
 ·simp [hj]
theorem OwnB.zeros {P : Program} {t tn e : TypeId} {i : TypeInfo} (ty : TypeId) (h : OwnB S w v s) (ht : P.underlying t = some (.slice e)) (htn : P.underlying tn = some (.int .i64)) (hi : P.info? e = some i) (hz : i.zero = some (.int .u8 0))
 (his : i.size = 1) (hib : i.bytes = 1) (k : Nat) (hk : s.size + k <= 4294967296) (hS : S w.heap.size) :
 ∃ v' w', (Builtin.append_ #[t, tn] ty #[v, .int .i64 (k : Int)]).run P w = .ok v' w' ∧ OwnB S w' v' (s ++ noughts k) ∧ Keeps (fun g => v.ownBlock = some g) w w' ∧
   (∀ g, v'.ownBlock = some g -> v.ownBlock = some g ∨ w.heap.size <= g) := by
 have hw : IntKind.i64.wrap (k : Int) = k := by rw [IntKind.wrap_i64]; omega
 have hsz : (s ++ noughts k).size = s.size + k := by simp [noughts_size]
 have hlen : s.data.toList.length = s.size := (Lib.size_eq s).symm
 have hgrow : ∀ base cap, cap < s.size + k -> (Builtin.firstCells i.size s.size (.slice base s.size cap)).run P w.drew = .ok (s.data.toList.map fun b => Value.int .u8 (b.toNat : Int)).toArray w.drew ->
  v = .slice base s.size cap -> s.size <= cap ->
  ∃ v' w', (Builtin.append_ #[t, tn] ty #[v, .int .i64 (k : Int)]).run P w = .ok v' w' ∧ OwnB S w' v' (s ++ noughts k) ∧ Keeps (fun g => v.ownBlock = some g) w w' ∧
    (∀ g, v'.ownBlock = some g -> v.ownBlock = some g ∨ w.heap.size <= g) := by
  intro base cap hlt hold hv hcap
  subst hv
  have hr := Lib.run_append_grow_zeros (P := P) w t tn ty e i _ .i64 .i64 ht htn hi hz base s.size cap _ hold k (by omega) (by rw [his]; decide) hlt (by omega) (by rw [hib]; omega) (growslice_fits hlt (by rw [hib]; omega))
  have hge := grownCap_ge w (s.size + k) cap e
  have hle := grownCap_le_maxLen w (s.size + k) cap e (by simp only [maxLen]; omega)
  refine ⟨_, _, hr, ?_, ((Keeps.refl _ w).drew).alloc _, fun g hg => by simp [Value.ownBlock] at hg; right; omega⟩
  generalize hC : ((s.data.toList.map fun b => Value.int .u8 (b.toNat : Int)).toArray ++ Builtin.zeroCells (Value.int .u8 0).cells k ++ Builtin.zeroCells (Value.int .u8 0).cells (grownCap w (s.size + k) cap e - (s.size + k))) = C
  have hCl : C.toList = (s.data.toList.map fun b => Value.int .u8 (b.toNat : Int)) ++ List.replicate k (.int .u8 0) ++ List.replicate (grownCap w (s.size + k) cap e - (s.size + k)) (.int .u8 0) := by
   rw [<- hC]; simp only [Array.toList_append, zeroCells_u8]
  have hCs : C.size = grownCap w (s.size + k) cap e := by
   rw [<- Array.length_toList, hCl]; simp only [List.length_append, List.length_map, List.length_replicate, hlen]; omega
  have hn := heap_alloc_new w.drew (.cells C e)
  refine .inr ⟨w.heap.size, _, by rw [hsz], hS, by simp, by omega, hle, fun j hj => ?_, fun j hj => ?_, fun j b hb => ?_⟩
  ·have hn' : (w.drew.alloc (.cells C e)).heap[w.heap.size]? = some (.cells C e (0, 0)) := hn
   rw [cell_of_row _ _ _ C e (0, 0) hn']; simp [hCs, hj]
  ·exact frozen_of_row _ _ _ C e hn
  ·have hn' : (w.drew.alloc (.cells C e)).heap[w.heap.size]? = some (.cells C e (0, 0)) := hn
   rw [cell_of_row _ _ _ C e (0, 0) hn', <- Array.getElem?_toList, hCl]
   rcases getElem?_noughts s k j b hb with ⟨h1, h2⟩ | ⟨h1, h2, rfl⟩
   ·rw [List.append_assoc, List.getElem?_append_left (by simp only [List.length_map, hlen]; exact h1), List.getElem?_map, h2]; rfl
   ·rw [List.getElem?_append_left (by simp only [List.length_append, List.length_map, List.length_replicate, hlen]; omega), List.getElem?_append_right (by simp only [List.length_map, hlen]; exact h1), List.getElem?_replicate, if_pos (by simp only [List.length_map, hlen]; omega)]; rfl
 rcases h with ⟨rfl, h⟩ | ⟨g, cap, rfl, h1, h2, h3, h4, h5, h6, h7⟩
 ·have : s = ⟨#[]⟩ := by
   exact ByteArray.ext (Array.eq_empty_of_size_eq_zero h)
  subst this
  by_cases h0 : k = 0
  ·subst h0
   refine ⟨.slice none 0 0, w, ?_, .inl ⟨rfl, hsz⟩, Keeps.refl _ w, fun g hg => .inl hg⟩
   have hw0 : IntKind.i64.wrap 0 = 0 := by decide
   simp [Builtin.append_, run_underlying ht, run_underlying htn, sizeOf, typeInfo, hi, hib, asInt, asIntOf, hw0, Result.andThen]
  ·exact hgrow none 0 (by show 0 < 0 + k; omega) (run_firstCells_none _ _ _ _ _) rfl (Nat.le_refl 0)
 ·by_cases hroom : s.size + k <= cap
  ·refine ⟨.slice (some ⟨g, 0, none⟩) (s.size + k) cap, w.setCells g s.size (List.replicate k (.int .u8 0)), ?_, .inr ⟨g, cap, by rw [hsz], h1, by rw [size_setCells']; exact h2, by omega, h4, fun j hj => World.isSome_setCells _ _ _ _ _ (h5 j hj), fun j hj => by rw [World.frozen?_setCells]; exact h6 j hj, fun j b hb => ?_⟩, ?_, fun g hg => .inl hg⟩
   ·have hst := run_storeCells_cells (P := P) g s.size (List.replicate k (.int .u8 0)) 0 w (fun j hj => h5 _ (by simp at hj; omega)) (fun j hj => h6 _ (by simp at hj; omega)) (fun v hv => by rw [(List.mem_replicate.1 hv).2]; rfl)
    rw [Nat.add_zero] at hst
    have h48i : ¬ (281474976710656 < (k : Int)) := by omega
    have hneg : ¬ ((k : Int) < 0) := by omega
    by_cases h0 : k = 0
    ·subst h0
     have hw0 : IntKind.i64.wrap 0 = 0 := by decide
     have hnc : ¬ cap < s.size := by omega
     simp [Builtin.append_, run_underlying ht, run_underlying htn, sizeOf, typeInfo, zeroValue, hi, hz, hw0, hnc, his, hib, asInt, asIntOf, hw, hneg, h48i, hroom, Result.andThen, add_lit, World.setCells, storeCells]
    ·simp [Builtin.append_, run_underlying ht, run_underlying htn, sizeOf, typeInfo, zeroValue, hi, hz, his, hib, asInt, asIntOf, hw, hneg, h48i, h0, hroom, Result.andThen, add_lit, zeroCells_u8, hst]
   ·rcases getElem?_noughts s k j b hb with ⟨h8, h9⟩ | ⟨h8, h9, rfl⟩
    ·rw [World.cell?_setCells_out _ _ _ _ _ (fun _ _ => .inl h8)]; exact h7 j b h9
    ·have := World.cell?_setCells_in g (List.replicate k (.int .u8 0)) s.size w (fun j hj => h5 _ (by simp at hj; omega)) (j - s.size) (by simp; omega)
     rw [show s.size + (j - s.size) = j by omega] at this
     rw [this]; simp
   ·exact Keeps.setCells (g := g) (Keeps.refl (fun g' => (Value.slice (some ⟨g, 0, none⟩) s.size cap).ownBlock = some g') w) (Or.inl (by rfl)) _ _
  ·exact hgrow _ cap (by omega) (run_firstCells_some w.drew i.size s.size ⟨g, 0, none⟩ s.size cap _ (by rw [his, List.length_map, hlen, Nat.mul_one]) (fun j u hu => by
    rw [List.getElem?_map] at hu
    cases hb : s.data.toList[j]? with
    | none => rw [hb] at hu; cases hu
    | some b => rw [hb] at hu; rw [add_lit, Nat.zero_add, World.cell?_drew, h7 j b hb]; exact hu)) rfl h3
def over (s : ByteArray) (at' : Nat) (t : ByteArray) : ByteArray := ⟨(s.data.toList.take at' ++ t.data.toList ++ s.data.toList.drop (at' + t.size)).toArray⟩
theorem over_size {s t : ByteArray} {a : Nat} (h : a + t.size <= s.size) : (over s a t).size = s.size := by
 have h1 := Lib.size_eq s
 have h2 := Lib.size_eq t
 show (s.data.toList.take a ++ t.data.toList ++ s.data.toList.drop (a + t.size)).toArray.size = s.size
 simp only [List.size_toArray, List.length_append, List.length_take, List.length_drop]
 omega
theorem over_get {s t : ByteArray} {a : Nat} (h : a + t.size <= s.size) (j : Nat) : (over s a t).data.toList[j]? = if a <= j ∧ j < a + t.size then t.data.toList[j - a]? else s.data.toList[j]? := by
 have h1 := Lib.size_eq s
 have h2 := Lib.size_eq t
 show (s.data.toList.take a ++ t.data.toList ++ s.data.toList.drop (a + t.size))[j]? = _
 have l1 : (s.data.toList.take a).length = a := by simp only [List.length_take]; omega
 by_cases c1 : j < a
 ·rw [if_neg (by omega), List.append_assoc, List.getElem?_append_left (by rw [l1]; exact c1), List.getElem?_take, if_pos c1]
 ·by_cases c2 : j < a + t.size
  ·rw [if_pos (by omega), List.getElem?_append_left (by rw [List.length_append, l1]; omega), List.getElem?_append_right (by rw [l1]; omega), l1]
  ·rw [if_neg (by omega), List.getElem?_append_right (by rw [List.length_append, l1]; omega), List.length_append, l1, List.getElem?_drop]
   congr 1; omega
theorem OwnB.over {P : Program} {t tn e : TypeId} {i : TypeInfo} (ty : TypeId) (h : OwnB S w v s) (ht : P.underlying t = some (.slice e)) (hi : P.info? e = some i) (his : i.size = 1) {p : Option Addr} {cap : Nat} (hv : v = .slice p s.size cap)
 (a : Nat) (x : ByteArray) (h0 : 0 < x.size) (hx : a + x.size <= s.size) :
 ∃ w', (Builtin.copy_ #[t, tn] ty #[.slice (subAt 1 p cap a) (s.size - a) (cap - a), .string x]).run P w = .ok (goInt x.size) w' ∧ OwnB S w' v (over s a x) ∧ Keeps (fun g => v.ownBlock = some g) w w' := by
 rcases h with ⟨rfl, h⟩ | ⟨g, cap, rfl, h1, h2, h3, h4, h5, h6, h7⟩
 ·omega
 ·cases hv
  have hsub : subAt 1 (some ⟨g, 0, none⟩) cap a = some ⟨g, a, none⟩ := by
   unfold subAt
   rw [if_neg (by omega)]
   simp [add_lit]
  have hlen : x.data.toList.length = x.size := (Lib.size_eq x).symm
  have hmin : Nat.min x.size (s.size - a) = x.size := Nat.min_eq_left (by omega)
  have htake : (x.data.toList.map fun b => Value.int .u8 (b.toNat : Int)).take x.size = x.data.toList.map fun b => Value.int .u8 (b.toNat : Int) := List.take_of_length_le (by rw [List.length_map, hlen]; exact Nat.le_refl _)
  have hst := run_storeCells_cells (P := P) g a (x.data.toList.map fun b => Value.int .u8 (b.toNat : Int)) 0 w (fun j hj => h5 _ (by rw [List.length_map, hlen] at hj; omega)) (fun j hj => h6 _ (by rw [List.length_map, hlen] at hj; omega))
   (fun v hv => by obtain ⟨b, _, rfl⟩ := List.mem_map.1 hv; rfl)
  rw [Nat.add_zero] at hst
  refine ⟨w.setCells g a (x.data.toList.map fun b => Value.int .u8 (b.toNat : Int)), ?_, .inr ⟨g, cap, by rw [over_size hx], h1, by rw [size_setCells']; exact h2, by rw [over_size hx]; exact h3, h4, fun j hj => World.isSome_setCells _ _ _ _ _ (h5 j hj), fun j hj => by rw [World.frozen?_setCells]; exact h6 j hj, fun j b hb => ?_⟩, Keeps.setCells (g := g) (Keeps.refl (fun g' => (Value.slice (some ⟨g, 0, none⟩) s.size cap).ownBlock = some g') w) (Or.inl (by rfl)) _ _⟩
  ·rw [hsub]
   simp [Builtin.copy_, run_underlying ht, Builtin.lenOf, Builtin.firstCells, sizeOf, typeInfo, hi, hmin, htake, Result.andThen, hst]
  ·rw [over_get hx] at hb
   split at hb
   ·next c =>
    have := World.cell?_setCells_in g (x.data.toList.map fun b => Value.int .u8 (b.toNat : Int)) a w (fun j hj => h5 _ (by rw [List.length_map, hlen] at hj; omega)) (j - a) (by rw [List.length_map, hlen]; omega)
    rw [show a + (j - a) = j by omega] at this
    rw [this]
    obtain ⟨hl, he⟩ := List.getElem?_eq_some_iff.1 hb
    rw [List.getElem_map, he]
   ·next c => rw [World.cell?_setCells_out _ _ _ _ _ (fun _ _ => by simp only [List.length_map, hlen]; omega)]; exact h7 j b hb
structure IsDir (G : Nat -> Prop) (w : World) (a : Addr) (v : Value) (es : List Ent) : Prop where
 cell : w.cell? a = some v
 free : w.frozen? a = false
 spot : a.spot = none
 own : Own encEnt 133 G w v es
 rising : Rising es
 names : ∀ e ∈ es, okName e.1 = true
 apart : ¬ v.ownBlock = some a.block
set_option maxHeartbeats 400000 in
theorem find_any (G : Nat -> Prop) (w : World) (a : Addr) (v : Value) (es : List Ent) (name : ByteArray) (h : IsDir G w a v es) (hn : es.length < 4294967296) :
 Calls Tryz.prog 121 #[.pointer (some a), .string name] w fun e w' =>
  e = .returned (.tuple #[.int .i64 (lb es name), .bool (entHas es name)]) ∧ Keeps NoB w w' := by
 obtain ⟨p, c, rfl, hs⟩ := h.own.sl
 have hc := h.cell
 have hr := h.rising
 go_enter Tryz.func121, Tryz.ntmps121
 go_wp2_with (go_at_call 147; refine (bs_any _ _ _ _ _ _ hs hr hn).mono ?_; rintro e w' ⟨rfl, hk1⟩)
 go_ret2
 exact ⟨rfl, hk1⟩
set_option maxHeartbeats 400000 in
theorem len_any (G : Nat -> Prop) (w : World) (a : Addr) (v : Value) (es : List Ent) (h : IsDir G w a v es) :
 Calls Tryz.prog 81 #[.pointer (some a)] w fun e w' => e = .returned (.int .i64 es.length) ∧ w = w' := by
 obtain ⟨p, c, rfl, hs⟩ := h.own.sl
 have hc := h.cell
 go_enter Tryz.func81, Tryz.ntmps81
 go_wp2
 go_ret
 exact ⟨rfl, rfl⟩
set_option maxHeartbeats 400000 in
theorem get_any (G : Nat -> Prop) (w : World) (a : Addr) (v : Value) (es : List Ent) (name : ByteArray) (h : IsDir G w a v es) (hn : es.length < 4294967296) :
 Calls Tryz.prog 120 #[.pointer (some a), .string name] w fun e w' =>
  e = .returned (.tuple #[.int .i64 ((entGet es name).getD 0), .bool (entGet es name).isSome]) ∧ Keeps NoB w w' := by
 have hfind := find_any G w a v es name h hn
 obtain ⟨p, c, rfl, hs⟩ := h.own.sl
 have hlt := lt_of_cell h.cell
 have hhas := lb_has h.rising name
 have hget := get_at h.rising name
 by_cases hh : entHas es name = true
 ·rw [hh] at hhas
  cases hl : es[lb es name]? with
  | none => rw [hl] at hhas; cases hhas
  | some x =>
    rw [hl] at hhas hget
    have hx : x.1 = name := by simpa using hhas.symm
    simp only [hx, if_true] at hget
    have Hget := Lib.hid hget
    have Hl := Lib.hid hl
    have hll := (List.getElem?_eq_some_iff.1 hl).1
    rw [hh] at hfind
    have Hfind := Lib.hid hfind
    clear hhas hget hl hh hfind
    go_enter Tryz.func120, Tryz.ntmps120
    go_wp2_with (fail)
    refine Hfind.out.mono ?_
    rintro e w' ⟨rfl, hk1⟩
    obtain ⟨g, off, rfl, hS, hg, c0, c1⟩ := (hs.keepN hk1).ent Hl.out
    have hc := (hk1.cell hlt (fun h => h)).trans h.cell
    go_wp2_with fail
    go_ret2
    refine ⟨?_, hk1⟩
    rw [Hget.out]; rfl
 ·have hh' : entHas es name = false := by simpa using hh
  have hget0 : entGet es name = none := by
   rw [hh'] at hhas
   cases hl : es[lb es name]? with
   | none => rw [hl] at hget; exact hget
   | some x =>
     rw [hl] at hget hhas
     have : ¬ x.1 = name := by simpa using hhas.symm
     simpa [this] using hget
  have Hget := Lib.hid hget0
  rw [hh'] at hfind
  have Hfind := Lib.hid hfind
  clear hhas hget hget0 hh hh' hfind
  go_enter Tryz.func120, Tryz.ntmps120
  go_wp2_with (fail)
  refine Hfind.out.mono ?_
  rintro e w' ⟨rfl, hk1⟩
  go_wp2_with fail
  go_ret2
  refine ⟨?_, hk1⟩
  rw [Hget.out]; rfl
theorem entSize_take (es : List Ent) (k : Nat) (x : Ent) (h : es[k]? = some x) : entSize (es.take (k + 1)) = entSize (es.take k) + x.1.size := by
 unfold entSize
 rw [List.take_add_one, h]
 simp
theorem entSize_le (es : List Ent) (h : ∀ e ∈ es, okName e.1 = true) : entSize es <= 255 * es.length := by
 induction es with
 | nil => simp [entSize]
 | cons a l ih =>
   have ha : a.1.size <= 255 := by have := h a (by simp); simp [okName] at this; omega
   have := ih (fun e he => h e (by simp [he]))
   simp only [entSize, List.map_cons, List.sum_cons, List.length_cons] at *
   omega
set_option maxHeartbeats 400000 in
theorem size_any (G : Nat -> Prop) (w : World) (a : Addr) (v : Value) (es : List Ent) (h : IsDir G w a v es) (hn : es.length < 4294967296) :
 Calls Tryz.prog 91 #[.pointer (some a)] w fun e w' => e = .returned (.int .i64 (entSize es)) ∧ Keeps NoB w w' := by
 have hnm := h.names
 obtain ⟨p, c, rfl, hs⟩ := h.own.sl
 have hc := h.cell
 have Hnm := Lib.hid hnm
 clear hnm
 go_enter Tryz.func91, Tryz.ntmps91
 go_wp2
 go_loopw [3, 5, 11] (fun s u i wr => ∃ k : Nat, k <= es.length ∧ i = .int .i64 k ∧ s = .int .i64 (entSize (es.take k)) ∧ Keeps NoB w wr) (fun _ _ i _ => es.length - (intOf i).toNat)
 case atStart => exact ⟨0, Nat.zero_le _, rfl, by simp [entSize], Keeps.refl _ _⟩
 case round =>
  obtain ⟨k, hk, rfl, rfl, hkp⟩ := hrel
  have Hkp := Lib.hid hkp
  clear hkp
  by_cases hlt : k < es.length
  ·obtain ⟨x, hx⟩ : ∃ x, es[k]? = some x := ⟨_, List.getElem?_eq_getElem hlt⟩
   obtain ⟨g, off, rfl, hS, hg, c0, c1⟩ := (hs.keepN Hkp.out).ent hx
   have hx1 : x.1.size <= 255 := by have := Hnm.out x (List.mem_of_getElem? hx); simp [okName] at this; omega
   have hle := entSize_le (es.take k) (fun e he => Hnm.out e (List.mem_of_mem_take he))
   rw [List.length_take] at hle
   have HS := Lib.hid (entSize_take es k x hx)
   clear hx
   go_wp2
   go_roundw
   case rel => exact ⟨k + 1, by omega, by go_num, by rw [HS.out]; go_num, (Hkp.out.alloc _)⟩
   case measure => simp [intOf]; omega
  ·go_wp2
   go_ret
   exact ⟨ret_i64 (by rw [List.take_of_length_le (by omega)]), Hkp.out⟩
set_option maxHeartbeats 400000 in
theorem clone_any (S : Nat -> Prop) (w : World) (p : Option Addr) (c : Nat) (es : List Ent) (h : SlAt encEnt S w p c es) (hn : es.length < 4294967296) :
 Calls Tryz.prog 125 #[.slice p es.length c] w fun e w' =>
  ∃ v', e = .returned v' ∧ Own encEnt 133 (fun g => w.heap.size <= g) w' v' es ∧ Keeps NoB w w' := by
 cases p with
 | none =>
   have hc0 := h.nilc rfl
   have hcap := h.cap
   have h0 : es.length = 0 := by omega
   subst hc0
   obtain rfl : es = [] := List.eq_nil_of_length_eq_zero h0
   have heq : ∀ (w : World), (binOp .eql 82 (.slice none 0 0) (.slice none 0 0)).run Tryz.prog w = .ok (.bool true) w := fun w => Lib.run_eql_slice_nil w _ _ none 0 0 0 0 Tryz.underlying82
   go_enter Tryz.func125, Tryz.ntmps125
   go_wp2
   go_ret
   exact ⟨_, rfl, Own.nil _ _ _ _, Keeps.refl _ _⟩
 | some ad =>
   have heq : ∀ (w : World), (binOp .eql 82 (.slice (some ad) es.length c) (.slice none 0 0)).run Tryz.prog w = .ok (.bool false) w := fun w => Lib.run_eql_slice_nil w _ _ (some ad) es.length c 0 0 Tryz.underlying82
   have hmx : es.length <= maxLen := by have := h.cap; have := h.max; omega
   go_enter Tryz.func125, Tryz.ntmps125
   go_wp2_with (at_builtin; refine wpl_append rfl _ _ rfl tEnt (own_lit (S := fun g => w.heap.size <= g) [] #[] rfl 0 rfl (Nat.le_refl _) (Nat.zero_le _)) ⟨_, _, rfl, h.keepN ((Keeps.refl _ _).alloc _)⟩ rfl rfl (by simp) (by simpa using hmx) (by simp; omega) ?_; intro v' w' ho hk hf)
   go_ret
   exact ⟨v', rfl, ho.mono (fun g _ h => h), ((Keeps.refl _ _).alloc _).step hk (fun g hg => by simp [Value.ownBlock] at hg; omega)⟩
set_option maxHeartbeats 400000 in
theorem list_any (G : Nat -> Prop) (w : World) (a : Addr) (v : Value) (es : List Ent) (h : IsDir G w a v es) (hn : es.length < 4294967296) :
 Calls Tryz.prog 92 #[.pointer (some a)] w fun e w' =>
  ∃ v', e = .returned v' ∧ Own encEnt 133 (fun g => w.heap.size <= g) w' v' es ∧ Keeps NoB w w' := by
 obtain ⟨p, c, rfl, hs⟩ := h.own.sl
 have hc := h.cell
 go_enter Tryz.func92, Tryz.ntmps92
 go_wp2_with (go_at_call 125; refine (clone_any _ _ _ _ _ hs hn).mono ?_; rintro e w' ⟨v', rfl, ho, hk⟩)
 go_ret
 exact ⟨v', rfl, ho, hk⟩
theorem info_ent : ∃ i : TypeInfo, Tryz.prog.info? 133 = some i ∧ i.size = encEnt.k ∧ i.bytes = 24 ∧ i.zero = some (.agg #[.string ByteArray.empty, .int .i64 0]) := by
 have h : (Tryz.prog.info? 133).map (fun i => (i.zero, i.size, i.bytes)) = some (some (.agg #[.string ByteArray.empty, .int .i64 0]), 2, 24) := by kernel_rfl
 cases hi : Tryz.prog.info? 133 with
 | none => rw [hi] at h; cases h
 | some i => rw [hi] at h; simp at h; exact ⟨i, rfl, h.2.1, h.2.2, h.1⟩
set_option maxHeartbeats 1000000 in
set_option maxRecDepth 100000 in
theorem ins_end (G : Nat -> Prop) (w : World) (v : Value) (es : List Ent) (x : Ent) (b : Nat) (ho : Own encEnt 133 G w v es) (hG : G w.heap.size) (hn : es.length < 4294967295)
 (hx : w.heap[b]? = some (.cells #[.string x.1, .int .i64 x.2] 133 (0, 0))) :
 Calls Tryz.prog 123 #[v, .int .i64 es.length, .slice (some ⟨b, 0, none⟩) 1 1] w fun e w' =>
  ∃ v', e = .returned v' ∧ Own encEnt 133 G w' v' (es ++ [x]) ∧ Keeps (fun g => v.ownBlock = some g) w w' ∧ (∀ g, v'.ownBlock = some g -> v.ownBlock = some g ∨ w.heap.size <= g) := by
 have hsx : Sl encEnt (fun _ => True) w (.slice (some ⟨b, 0, none⟩) 1 1) [x] :=
  (Own.mk (E := encEnt) (l := [x]) (cap := 1) (S := fun _ => True) trivial hx (Nat.le_refl _) (by decide) rfl rfl).sl
 obtain ⟨p, c, rfl, hs⟩ := ho.sl
 have hcap := hs.cap
 have hmax := hs.max
 unfold maxLen at hmax
 have hsl := fun wx => run_slice_l (P := Tryz.prog) 82 133 2 Tryz.underlying82 (by kernel_rfl) p es.length c es.length (Nat.le_refl _) wx (by omega)
 go_enter Tryz.func123, Tryz.ntmps123
 go_wp2_with (at_builtin; refine wpl_append rfl _ _ rfl tEnt ho hsx rfl rfl hG (by simp [maxLen]; omega) (by simp; omega) ?_; intro v' w' ho' hk hf)
 go_ret
 exact ⟨v', rfl, ho', hk, hf⟩
theorem run_grow_zeros (G : Nat -> Prop) (w : World) (g c : Nat) (cur : Array Value) (es : List Ent) (i k : Nat) (hG : G w.heap.size) (ty : TypeId)
 (hg : w.heap[g]? = some (.cells cur 133 (0, 0))) (hcs : cur.size = c * 2) (htk : cur.toList.take (es.length * 2) = es.flatMap encEnt.enc) (hc1 : es.length <= c)
 (hi : i <= es.length) (hk : 0 < k) (hfull : c < i + k) (hb : i + k <= 4294967296) :
 ∃ cap' cur' w1, (Builtin.append_ #[82, 3] ty #[.slice (some ⟨g, 0, none⟩) i c, .int .i64 (k : Int)]).run Tryz.prog w = .ok (.slice (some ⟨w.heap.size, 0, none⟩) (i + k) cap') w1 ∧
   w1.heap[w.heap.size]? = some (.cells cur' 133 (0, 0)) ∧ cur'.size = cap' * 2 ∧ i + k <= cap' ∧ cap' <= maxLen ∧ cur'.toList.take (i * 2) = (es.take i).flatMap encEnt.enc ∧ Keeps NoB w w1 := by
 obtain ⟨inf, hi', his, hib, hiz⟩ := info_ent
 have hm : i + k <= maxLen := by simp only [maxLen]; omega
 have hold : (Builtin.firstCells inf.size i (.slice (some ⟨g, 0, none⟩) i c)).run Tryz.prog w.drew = .ok ((es.take i).flatMap encEnt.enc).toArray w.drew := by
  refine run_firstCells_some w.drew inf.size i ⟨g, 0, none⟩ i c _ (by rw [encEnt.flat_len, his, List.length_take, Nat.min_eq_left hi]) (fun j u hu => ?_)
  have hj := (List.getElem?_eq_some_iff.1 hu).1
  rw [encEnt.flat_take, List.length_take, encEnt.flat_len] at hj
  rw [encEnt.flat_take, <- htk, List.getElem?_take, List.getElem?_take] at hu
  have hk2 : encEnt.k = 2 := rfl
  rw [hk2] at hj hu
  rw [if_pos (by omega), if_pos (by omega)] at hu
  rw [add_lit, World.cell?_drew, cell_of_row w g _ cur _ (0, 0) hg, Nat.zero_add]
  simpa using hu
 have hr := Lib.run_append_grow_zeros (P := Tryz.prog) w 82 3 ty 133 inf _ .i64 .i64 Tryz.underlying82 Tryz.underlying3 hi' hiz (some ⟨g, 0, none⟩) i c _ hold k hk (by rw [his]; decide) hfull
  (by omega) (by rw [hib]; omega) (growslice_fits hfull (by rw [hib]; omega))
 have hge := grownCap_ge w (i + k) c 133
 have hle := grownCap_le_maxLen w (i + k) c 133 hm
 refine ⟨_, _, _, hr, heap_alloc_new w.drew _, ?_, hge, hle, ?_, ((Keeps.refl _ _).drew).alloc _⟩
 ·simp only [Array.size_append, List.size_toArray, size_zeroCells]
  rw [encEnt.flat_len]
  have hk2 : encEnt.k = 2 := rfl
  have hzz : (Value.agg #[.string ByteArray.empty, .int .i64 0]).cells.size = 2 := rfl
  rw [hzz, hk2, List.length_take]
  omega
 ·simp only [Array.toList_append, List.append_assoc]
  have hl : ((es.take i).flatMap encEnt.enc).length = i * 2 := by
   have hk2 : encEnt.k = 2 := rfl
   rw [encEnt.flat_len, hk2, List.length_take]; omega
  rw [<- hl]
  exact List.take_left
set_option maxHeartbeats 1000000 in
set_option maxRecDepth 100000 in
theorem ins_grow (G : Nat -> Prop) (w : World) (g c : Nat) (cur : Array Value) (es : List Ent) (x : Ent) (b i : Nat) (hG : G w.heap.size) (hn : es.length < 4294967295)
 (hg : w.heap[g]? = some (.cells cur 133 (0, 0))) (hc1 : es.length <= c) (hc2 : c <= maxLen) (hcs : cur.size = c * 2) (htk : cur.toList.take (es.length * 2) = es.flatMap encEnt.enc)
 (hx : w.heap[b]? = some (.cells #[.string x.1, .int .i64 x.2] 133 (0, 0))) (hi : i < es.length) (hfull : c < es.length + 1) :
 Calls Tryz.prog 123 #[.slice (some ⟨g, 0, none⟩) es.length c, .int .i64 i, .slice (some ⟨b, 0, none⟩) 1 1] w fun e w' =>
  ∃ v', e = .returned v' ∧ Own encEnt 133 G w' v' (es.take i ++ x :: es.drop i) ∧ Keeps NoB w w' ∧ (∀ g, v'.ownBlock = some g -> w.heap.size <= g) := by
 obtain ⟨inf, hi', his, hib, hiz⟩ := info_ent
 have hsx : SlAt encEnt (fun _ => True) w (some ⟨b, 0, none⟩) 1 [x] := by
  obtain ⟨p, c, h, hs⟩ := (Own.mk (E := encEnt) (l := [x]) (cap := 1) (S := fun _ => True) trivial hx (Nat.le_refl _) (by decide) rfl rfl).sl
  cases h; exact hs
 have hse : SlAt encEnt (fun _ => True) w (some ⟨g, 0, none⟩) c es := by
  obtain ⟨p, c', h, hs⟩ := (Own.mk (E := encEnt) (l := es) (cap := c) (S := fun _ => True) trivial hg hc1 hc2 hcs htk).sl
  cases h; exact hs
 obtain ⟨cap', cur', w1, hrun, hg1, hcs1, hcap1, hcm1, htk1, hk1⟩ := run_grow_zeros G w g c cur es i (es.length + 1 - i) hG 82 hg hcs htk hc1 (by omega) (by omega) (by omega) (by omega)
 have ek : ((es.length + 1 - i : Nat) : Int) = (es.length : Int) + 1 - i := by omega
 have ek2 : i + (es.length + 1 - i) = es.length + 1 := by omega
 rw [ek, ek2] at hrun
 have Hrun := Lib.hid hrun
 clear hrun ek ek2
 unfold maxLen at hc2
 go_enter Tryz.func123, Tryz.ntmps123
 have hk2e : encEnt.k = 2 := rfl
 go_wp2_with (first | (at_builtin; refine Lib.wpList_append_run _ rfl _ _ _ _ rfl _ _ rfl rfl _ _ Hrun.out ?_) | (refine wpl_copy (E := encEnt) rfl (.tmp 43) (.tmp 44) _ _ rfl Tryz.underlying82 hi' his _ _ _ _ rfl _ _ hg1 rfl (hsx.keepN hk1) ?_ ?_ ?_))
 ·simp [Nat.min_def]; omega
 ·rw [hcs1, hk2e]; simp only [List.length_singleton]; omega
 simp only [List.length_singleton, hk2e]
 obtain ⟨cur2, hcur2⟩ : ∃ cur2, cur2 = (List.take (i * 2) cur'.toList ++ (List.flatMap encEnt.enc [x] ++ List.drop (i * 2 + 1 * 2) cur'.toList)).toArray := ⟨_, rfl⟩
 rw [<- hcur2]
 have hg2 := setRow_heap w1 w.heap.size cur' cur2 _ (0, 0) hg1
 have hk2 := hk1.setRow (g := w.heap.size) (Or.inr (Nat.le_refl _)) cur2
 have Hcur2 := Lib.hid hcur2
 clear hcur2
 generalize w1.setRow w.heap.size cur2 = w2 at *
 have e1 : subAt 2 (some ⟨w.heap.size, 0, none⟩) cap' (i + 1) = some ⟨w.heap.size, (i + 1) * 2, none⟩ := by
  unfold subAt; rw [if_neg (by omega)]; simp [add_lit]
 have hsl1 := fun wx => run_slice_l (P := Tryz.prog) 82 133 2 Tryz.underlying82 (by kernel_rfl) (some ⟨w.heap.size, 0, none⟩) (es.length + 1) cap' (i + 1) (by omega) wx (by omega)
 have hsl2 := fun wx => run_slice_l (P := Tryz.prog) 82 133 2 Tryz.underlying82 (by kernel_rfl) (some ⟨g, 0, none⟩) es.length c i (by omega) wx (by omega)
 rw [e1, show ((i + 1 : Nat) : Int) = (i : Int) + 1 by omega, show es.length + 1 - (i + 1) = es.length - i by omega] at hsl1
 clear e1
 go_wp2_with fail
 have hsum : IntKind.i64.wrap ((i : Int) + 1) = (i : Int) + 1 := by rw [IntKind.wrap_i64]; omega
 go_still_tail 8, (by kernel_rfl)
 clear hsum
 change wpList _ _ _ _ _ w2.drew
 have hg3 : w2.drew.heap[w.heap.size]? = some (.cells cur2 133 (0, 0)) := hg2
 have hk3 : Keeps NoB w w2.drew := hk2.drew
 clear hg2 hk2
 generalize w2.drew = w3 at *
 have hsub := (hse.sub i es.length (by omega) (Nat.le_refl _)).keepN hk3
 rw [List.take_length] at hsub
 have hcl : cur2.size = cap' * 2 := by
  rw [Hcur2.out, List.size_toArray, List.length_append, List.length_append, List.length_take, List.length_drop, Array.length_toList, hcs1, encEnt.flat_len, hk2e]; simp only [List.length_singleton]; omega
 refine wpl_copy (E := encEnt) rfl (.tmp 50) (.tmp 53) _ _ rfl Tryz.underlying82 hi' his _ _ _ _ rfl _ _ hg3 rfl hsub ?_ ?_ ?_
 ·simp
 ·rw [hcl, hk2e, List.length_drop]; omega
 rw [List.length_drop, hk2e]
 obtain ⟨cur3, hcur3⟩ : ∃ cur3, cur3 = (List.take ((i + 1) * 2) cur2.toList ++ (List.flatMap encEnt.enc (List.drop i es) ++ List.drop ((i + 1) * 2 + (es.length - i) * 2) cur2.toList)).toArray := ⟨_, rfl⟩
 rw [<- hcur3]
 have hg4 := setRow_heap w3 w.heap.size cur2 cur3 _ (0, 0) hg3
 have hk4 := hk3.setRow (g := w.heap.size) (Or.inr (Nat.le_refl _)) cur3
 have Hcur3 := Lib.hid hcur3
 clear hcur3
 generalize w3.setRow w.heap.size cur3 = w4 at *
 go_wp2_with fail
 go_ret
 have hL : cur'.toList.length = cap' * 2 := by rw [Array.length_toList]; exact hcs1
 have hAl : (List.flatMap encEnt.enc (es.take i)).length = i * 2 := by rw [encEnt.flat_len, hk2e, List.length_take]; omega
 have hVl : (List.flatMap encEnt.enc [x]).length = 2 := rfl
 have hBl : (List.flatMap encEnt.enc (es.drop i)).length = (es.length - i) * 2 := by rw [encEnt.flat_len, hk2e, List.length_drop]
 have hsp := splice_two cur'.toList (List.flatMap encEnt.enc (es.take i)) (List.flatMap encEnt.enc [x]) (List.flatMap encEnt.enc (es.drop i)) cur2.toList cur3.toList
  (by rw [hAl]; exact htk1) (by rw [hAl, hVl, hBl, hL]; omega)
  (by rw [hAl, hVl, Hcur2.out]) (by rw [hAl, hVl, hBl, Hcur3.out]; simp [Nat.add_mul])
 refine ⟨_, rfl, ?_, hk4, fun g h => by simp [Value.ownBlock] at h; omega⟩
 have hll : (es.take i ++ x :: es.drop i).length = es.length + 1 := by simp; omega
 rw [<- hll]
 refine Own.mk hG hg4 (by rw [hll]; omega) hcm1 ?_ ?_
 ·rw [<- Array.length_toList, hsp.2, hL, hk2e]
 ·have := hsp.1
  rw [hAl, hVl, hBl] at this
  rw [hll, hk2e, show (es.length + 1) * 2 = i * 2 + 2 + (es.length - i) * 2 by omega, this, List.flatMap_append, List.flatMap_cons]
  rfl
set_option maxHeartbeats 1000000 in
set_option maxRecDepth 100000 in
theorem ins_room (G : Nat -> Prop) (w : World) (g c : Nat) (cur : Array Value) (es : List Ent) (x : Ent) (b i : Nat) (hG : G g) (hn : es.length < 4294967295)
 (hg : w.heap[g]? = some (.cells cur 133 (0, 0))) (hc1 : es.length <= c) (hc2 : c <= maxLen) (hcs : cur.size = c * 2) (htk : cur.toList.take (es.length * 2) = es.flatMap encEnt.enc)
 (hx : w.heap[b]? = some (.cells #[.string x.1, .int .i64 x.2] 133 (0, 0))) (hbg : b ≠ g) (hi : i < es.length) (hroom : es.length + 1 <= c) :
 Calls Tryz.prog 123 #[.slice (some ⟨g, 0, none⟩) es.length c, .int .i64 i, .slice (some ⟨b, 0, none⟩) 1 1] w fun e w' =>
  e = .returned (.slice (some ⟨g, 0, none⟩) (es.length + 1) c) ∧ Own encEnt 133 G w' (.slice (some ⟨g, 0, none⟩) (es.length + 1) c) (es.take i ++ x :: es.drop i) ∧ Keeps (fun k => k = g) w w' := by
 obtain ⟨inf, hi', his, hib, hiz⟩ := info_ent
 have hk2e : encEnt.k = 2 := rfl
 have hcm := hc2
 have hsx : SlAt encEnt (fun k => k = b) w (some ⟨b, 0, none⟩) 1 [x] := by
  obtain ⟨p, c, h, hs⟩ := (Own.mk (E := encEnt) (l := [x]) (cap := 1) (S := fun k => k = b) rfl hx (Nat.le_refl _) (by decide) rfl rfl).sl
  cases h; exact hs
 have hse : SlAt encEnt (fun k => k = g) w (some ⟨g, 0, none⟩) c es := by
  obtain ⟨p, c', h, hs⟩ := (Own.mk (E := encEnt) (l := es) (cap := c) (S := fun k => k = g) rfl hg hc1 hc2 hcs htk).sl
  cases h; exact hs
 unfold maxLen at hc2
 have e1 : subAt 2 (some ⟨g, 0, none⟩) c (i + 1) = some ⟨g, (i + 1) * 2, none⟩ := by
  unfold subAt; rw [if_neg (by omega)]; simp [add_lit]
 have e2 : subAt 2 (some ⟨g, 0, none⟩) c i = some ⟨g, i * 2, none⟩ := by
  unfold subAt; rw [if_neg (by omega)]; simp [add_lit]
 have hsl0 := fun wx => run_slice_l (P := Tryz.prog) 82 133 2 Tryz.underlying82 (by kernel_rfl) (some ⟨g, 0, none⟩) es.length c i (by omega) wx (by omega)
 have hsl1 := fun wx => run_slice_l (P := Tryz.prog) 82 133 2 Tryz.underlying82 (by kernel_rfl) (some ⟨g, 0, none⟩) (es.length + 1) c (i + 1) (by omega) wx (by omega)
 have hsl2 := fun wx => run_slice_l (P := Tryz.prog) 82 133 2 Tryz.underlying82 (by kernel_rfl) (some ⟨g, 0, none⟩) (es.length + 1) c i (by omega) wx (by omega)
 rw [e1, show ((i + 1 : Nat) : Int) = (i : Int) + 1 by omega, show es.length + 1 - (i + 1) = es.length - i by omega] at hsl1
 rw [e2] at hsl0 hsl2
 clear e1 e2
 go_enter Tryz.func123, Tryz.ntmps123
 go_wp2_with fail
 rw [run_callFunc_extern Tryz.func150 (by kernel_rfl) (by kernel_rfl) (by kernel_rfl) (e := Extern.SlicesOverlaps.overlaps #[82, 82] #[4]) (by kernel_rfl),
  Lib.run_overlaps_apart w 82 4 133 Tryz.underlying82 2 (fun w => by simp [sizeOf, typeInfo, hi', his, hk2e]) ⟨b, 0, none⟩ ⟨g, (i + 1) * 2, none⟩ 1 1 (es.length - i) (c - (i + 1)) hbg 133 133 2 cur.size
   (by simp [World.shape?, hx]) (by simp [World.shape?, hg]) (by omega) (by simp [World.frozen?, hx]) (by simp [World.frozen?, hx])]
 simp only [Result.andThen]
 rw [Oper.upon_value]
 go_wp2_with fail
 have hsum : IntKind.i64.wrap ((i : Int) + 1) = (i : Int) + 1 := by rw [IntKind.wrap_i64]; omega
 go_still_tail 8, (by kernel_rfl)
 clear hsum
 change wpList _ _ _ _ _ w.drew
 have hg1 : w.drew.heap[g]? = some (.cells cur 133 (0, 0)) := hg
 have hk1 : Keeps (fun k => k = g) w w.drew := (Keeps.refl _ w).drew
 have hsub := (hse.sub i es.length (by omega) (Nat.le_refl _)).keepN (Keeps.refl NoB w).drew
 rw [List.take_length] at hsub
 have e2 : subAt encEnt.k (some ⟨g, 0, none⟩) c i = some ⟨g, i * 2, none⟩ := by
  unfold subAt; rw [if_neg (by omega)]; simp [add_lit, hk2e]
 rw [e2] at hsub
 clear e2
 generalize w.drew = w1 at *
 refine wpl_copy (E := encEnt) rfl (.tmp 73) (.tmp 76) _ _ rfl Tryz.underlying82 hi' his _ _ _ _ rfl _ _ hg1 rfl hsub ?_ ?_ ?_
 ·simp [Nat.min_def]; omega
 ·rw [hcs, hk2e, List.length_drop]; omega
 rw [List.length_drop, hk2e]
 obtain ⟨cur2, hcur2⟩ : ∃ cur2, cur2 = (List.take ((i + 1) * 2) cur.toList ++ (List.flatMap encEnt.enc (List.drop i es) ++ List.drop ((i + 1) * 2 + (es.length - i) * 2) cur.toList)).toArray := ⟨_, rfl⟩
 rw [<- hcur2]
 have hg2 := setRow_heap w1 g cur cur2 _ (0, 0) hg1
 have hk2 := hk1.setRow (g := g) (Or.inl rfl) cur2
 have Hcur2 := Lib.hid hcur2
 clear hcur2
 have hsx2 := hsx.keep hk2 (fun k hk _ e => hbg (by rw [<- hk, e]))
 generalize w1.setRow g cur2 = w2 at *
 have hcl : cur2.size = c * 2 := by
  have hL : cur.toList.length = c * 2 := by rw [Array.length_toList]; exact hcs
  rw [Hcur2.out, List.size_toArray, List.length_append, List.length_append, List.length_take, List.length_drop, hL, encEnt.flat_len, hk2e, List.length_drop]; omega
 go_wp2_with (refine wpl_copy (E := encEnt) rfl (.tmp 80) (.tmp 81) _ _ rfl Tryz.underlying82 hi' his _ _ _ _ rfl _ _ hg2 rfl hsx2 ?_ ?_ ?_)
 ·simp [Nat.min_def]; omega
 ·rw [hcl, hk2e]; simp only [List.length_singleton]; omega
 obtain ⟨cur3, hcur3⟩ : ∃ cur3, cur3 = (List.take (i * 2) cur2.toList ++ (encEnt.enc x ++ List.drop (i * 2 + 2) cur2.toList)).toArray := ⟨_, rfl⟩
 rw [<- hcur3]
 have hg3 := setRow_heap w2 g cur2 cur3 _ (0, 0) hg2
 have hk3 := hk2.setRow (g := g) (Or.inl rfl) cur3
 have Hcur3 := Lib.hid hcur3
 clear hcur3
 generalize w2.setRow g cur3 = w3 at *
 go_ret
 have hL : cur.toList.length = c * 2 := by rw [Array.length_toList]; exact hcs
 have hAl : (List.flatMap encEnt.enc (es.take i)).length = i * 2 := by rw [encEnt.flat_len, hk2e, List.length_take]; omega
 have hVl : (List.flatMap encEnt.enc [x]).length = 2 := rfl
 have hBl : (List.flatMap encEnt.enc (es.drop i)).length = (es.length - i) * 2 := by rw [encEnt.flat_len, hk2e, List.length_drop]
 have htA : cur.toList.take (i * 2) = List.flatMap encEnt.enc (es.take i) := by
  rw [encEnt.flat_take, <- htk, List.take_take, hk2e, Nat.min_eq_left (by omega)]
 have hsp := splice_back cur.toList (List.flatMap encEnt.enc (es.take i)) (List.flatMap encEnt.enc [x]) (List.flatMap encEnt.enc (es.drop i)) cur2.toList cur3.toList
  (by rw [hAl]; exact htA) (by rw [hAl, hVl, hBl, hL]; omega)
  (by rw [hAl, hVl, hBl, Hcur2.out]; simp [Nat.add_mul]) (by rw [hAl, hVl, Hcur3.out]; simp)
 refine ⟨rfl, ?_, hk3⟩
 have hll : (es.take i ++ x :: es.drop i).length = es.length + 1 := by simp; omega
 rw [<- hll]
 refine Own.mk hG hg3 (by rw [hll]; omega) hcm ?_ ?_
 ·rw [<- Array.length_toList, hsp.2, hL, hk2e]
 ·have := hsp.1
  rw [hAl, hVl, hBl] at this
  rw [hll, hk2e, show (es.length + 1) * 2 = i * 2 + 2 + (es.length - i) * 2 by omega, this, List.flatMap_append, List.flatMap_cons]
  rfl
set_option maxHeartbeats 1000000 in
set_option maxRecDepth 100000 in
theorem del_own (G : Nat -> Prop) (w : World) (g c : Nat) (cur : Array Value) (es : List Ent) (i : Nat) (hG : G g) (hn : es.length < 4294967295)
 (hg : w.heap[g]? = some (.cells cur 133 (0, 0))) (hc1 : es.length <= c) (hc2 : c <= maxLen) (hcs : cur.size = c * 2) (htk : cur.toList.take (es.length * 2) = es.flatMap encEnt.enc) (hi : i < es.length) :
 Calls Tryz.prog 124 #[.slice (some ⟨g, 0, none⟩) es.length c, .int .i64 i, .int .i64 ((i : Int) + 1)] w fun e w' =>
  e = .returned (.slice (some ⟨g, 0, none⟩) (es.length - 1) c) ∧ Own encEnt 133 G w' (.slice (some ⟨g, 0, none⟩) (es.length - 1) c) (es.take i ++ es.drop (i + 1)) ∧ Keeps (fun k => k = g) w w' := by
 obtain ⟨inf, hi', his, hib, hiz⟩ := info_ent
 have hk2e : encEnt.k = 2 := rfl
 have hcm := hc2
 have hse : SlAt encEnt (fun k => k = g) w (some ⟨g, 0, none⟩) c es := by
  obtain ⟨p, c', h, hs⟩ := (Own.mk (E := encEnt) (l := es) (cap := c) (S := fun k => k = g) rfl hg hc1 hc2 hcs htk).sl
  cases h; exact hs
 unfold maxLen at hc2
 have hsub := (hse.sub (i + 1) es.length (by omega) (Nat.le_refl _)).keepN (Keeps.refl NoB w).drew
 rw [List.take_length] at hsub
 have hsl1 := fun wx => run_slice_l (P := Tryz.prog) 82 133 2 Tryz.underlying82 (by kernel_rfl) (some ⟨g, 0, none⟩) es.length c (i + 1) (by omega) wx (by omega)
 rw [show ((i + 1 : Nat) : Int) = (i : Int) + 1 by omega] at hsl1
 have hsl2 := fun wx => run_slice_h (P := Tryz.prog) 82 133 Tryz.underlying82 (by kernel_rfl) g 0 es.length c i (by omega) wx (by omega)
 have hne : ((i : Int) == (i : Int) + 1) = false := by rw [beq_eq_false_iff_ne]; omega
 go_enter Tryz.func124, Tryz.ntmps124
 go_wp2_with fail
 go_still_tail 6, (by kernel_rfl)
 change wpList _ _ _ _ _ w.drew
 have hg1 : w.drew.heap[g]? = some (.cells cur 133 (0, 0)) := hg
 have hk1 : Keeps (fun k => k = g) w w.drew := (Keeps.refl _ w).drew
 generalize w.drew = w1 at *
 have hdl : (es.drop (i + 1)).length = es.length - (i + 1) := by simp
 have hrun := run_append_inplace tEnt 82 g i c cur hg1 hcs hsub (by omega)
 rw [hdl, hk2e, show i + (es.length - (i + 1)) = es.length - 1 by omega] at hrun
 obtain ⟨cur2, hcur2⟩ : ∃ cur2, cur2 = (List.take (i * 2) cur.toList ++ List.flatMap encEnt.enc (List.drop (i + 1) es) ++ List.drop (i * 2 + (es.length - (i + 1)) * 2) cur.toList).toArray := ⟨_, rfl⟩
 rw [<- hcur2] at hrun
 have hg2 := setRow_heap w1 g cur cur2 _ (0, 0) hg1
 have hk2 := hk1.setRow (g := g) (Or.inl rfl) cur2
 have Hcur2 := Lib.hid hcur2
 clear hcur2
 refine Lib.wpList_append_run _ rfl _ _ _ _ rfl _ _ rfl rfl _ _ hrun ?_
 generalize w1.setRow g cur2 = w2 at *
 have hL : cur.toList.length = c * 2 := by rw [Array.length_toList]; exact hcs
 have hcl : cur2.size = c * 2 := by
  rw [Hcur2.out, List.size_toArray, List.length_append, List.length_append, List.length_take, List.length_drop, hL, encEnt.flat_len, hk2e, hdl]; omega
 have e1 : es.length - (es.length - 1) = 1 := by omega
 have hcr := run_clear tEnt 0 g ((es.length - 1) * 2) (es.length - (es.length - 1)) (c - (es.length - 1)) cur2 hg2 (by rw [hk2e, hcl]; omega) (by omega)
 obtain ⟨cur3, hcur3⟩ : ∃ cur3, cur3 = (List.take ((es.length - 1) * 2) cur2.toList ++ List.flatMap encEnt.enc (List.replicate (es.length - (es.length - 1)) (ByteArray.empty, 0)) ++ List.drop ((es.length - 1) * 2 + (es.length - (es.length - 1)) * encEnt.k) cur2.toList).toArray := ⟨_, rfl⟩
 rw [<- hcur3] at hcr
 rw [e1, hk2e] at hcur3
 clear e1
 have hg3 := setRow_heap w2 g cur2 cur3 _ (0, 0) hg2
 have hk3 := hk2.setRow (g := g) (Or.inl rfl) cur3
 have Hcur3 := Lib.hid hcur3
 clear hcur3
 go_wp2_with (refine wpl_clear rfl _ _ rfl _ rfl _ _ hcr ?_)
 go_ret
 refine ⟨rfl, ?_, hk3⟩
 have hL2 : cur2.toList.length = c * 2 := by rw [Array.length_toList]; exact hcl
 have hAl : (List.flatMap encEnt.enc (es.take i)).length = i * 2 := by rw [encEnt.flat_len, hk2e, List.length_take]; omega
 have hBl : (List.flatMap encEnt.enc (es.drop (i + 1))).length = (es.length - (i + 1)) * 2 := by rw [encEnt.flat_len, hk2e, hdl]
 have htA : cur.toList.take (i * 2) = List.flatMap encEnt.enc (es.take i) := by
  rw [encEnt.flat_take, <- htk, List.take_take, hk2e, Nat.min_eq_left (by omega)]
 have hll : (es.take i ++ es.drop (i + 1)).length = es.length - 1 := by simp; omega
 have ht2 : cur2.toList.take ((es.length - 1) * 2) = List.flatMap encEnt.enc (es.take i ++ es.drop (i + 1)) := by
  rw [Hcur2.out, htA, List.flatMap_append]
  rw [show (es.length - 1) * 2 = (List.flatMap encEnt.enc (es.take i) ++ List.flatMap encEnt.enc (es.drop (i + 1))).length by rw [List.length_append, hAl, hBl]; omega]
  exact List.take_left
 rw [<- hll]
 refine Own.mk hG hg3 (by rw [hll]; omega) hcm ?_ ?_
 ·rw [Hcur3.out, List.size_toArray, List.length_append, List.length_append, List.length_take, List.length_drop, hL2, hk2e]
  simp only [List.replicate_one, List.flatMap_singleton, encEnt, List.length_cons, List.length_nil]; omega
 ·rw [hll, hk2e, <- ht2, Hcur3.out]
  have : (List.take ((es.length - 1) * 2) cur2.toList).length = (es.length - 1) * 2 := by rw [List.length_take, hL2]; omega
  rw [List.append_assoc]
  conv => lhs; arg 1; rw [<- this]
  exact List.take_left
def DirTo (G : Nat -> Prop) (w w' : World) (a : Addr) (es' : List Ent) : Prop :=
 ∃ v', IsDir G w' a v' es' ∧ Keeps G (w.setCell a v') w'
theorem DirTo.same {G : Nat -> Prop} {w w' : World} {a : Addr} {v : Value} {es : List Ent} (h : IsDir G w a v es) (hk : Keeps NoB w w') : DirTo G w w' a es := by
 have hb := lt_of_cell h.cell
 refine ⟨v, ⟨(hk.cell hb (fun h => h)).trans h.cell, (hk.frozen hb (fun h => h)).trans h.free, h.spot, h.own.keep hk (fun _ _ h => h), h.rising, h.names, h.apart⟩, ?_⟩
 rw [setCell_self h.cell]
 exact hk.of_none
theorem DirTo.store {G : Nat -> Prop} {w w1 w2 : World} {a : Addr} {v v' : Value} {es es' : List Ent} (h : IsDir G w a v es) (hk : Keeps NoB w w1) (ho : Own encEnt 133 G w2 v' es')
 (hk2 : Keeps (fun g => v.ownBlock = some g) w1 w2) (hf : ∀ g, v'.ownBlock = some g -> v.ownBlock = some g ∨ w1.heap.size <= g) (hr : Rising es') (hn : ∀ e ∈ es', okName e.1 = true) :
 DirTo G w (w2.setCell a v') a es' := by
 have hb := lt_of_cell h.cell
 have hb1 : a.block < w1.heap.size := Nat.lt_of_lt_of_le hb hk.size
 have hap : ¬ v'.ownBlock = some a.block := fun e => (hf _ e).elim h.apart (fun h => by omega)
 have hc2 : w2.cell? a = some v := ((hk2.cell hb1 h.apart).trans (hk.cell hb (fun h => h))).trans h.cell
 have hgo : ∀ g, v.ownBlock = some g -> G g := h.own.2
 refine ⟨v', ⟨?_, ?_, h.spot, ho.keep ((Keeps.refl (fun g => g = a.block) w2).setCell (Or.inl rfl) v') (fun g hg e => hap (by rw [hg, e])), hr, hn, hap⟩, ?_⟩
 ·exact World.cell?_setCell_same _ _ _ hc2
 ·rw [World.frozen?_setCell]
  exact ((hk2.frozen hb1 h.apart).trans (hk.frozen hb (fun h => h))).trans h.free
 ·exact (hk.of_none.trans (hk2.mono (fun g _ hg => hgo g hg))).setCell2 a v'
theorem ins_any (G : Nat -> Prop) (w : World) (v : Value) (es : List Ent) (x : Ent) (b i : Nat) (ho : Own encEnt 133 G w v es) (hG : G w.heap.size) (hn : es.length < 4294967295)
 (hx : w.heap[b]? = some (.cells #[.string x.1, .int .i64 x.2] 133 (0, 0))) (hb : ¬ v.ownBlock = some b) (hi : i <= es.length) :
 Calls Tryz.prog 123 #[v, .int .i64 i, .slice (some ⟨b, 0, none⟩) 1 1] w fun e w' =>
  ∃ v', e = .returned v' ∧ Own encEnt 133 G w' v' (es.take i ++ x :: es.drop i) ∧ Keeps (fun g => v.ownBlock = some g) w w' ∧ (∀ g, v'.ownBlock = some g -> v.ownBlock = some g ∨ w.heap.size <= g) := by
 by_cases he : i = es.length
 ·subst he
  refine (ins_end G w v es x b ho hG hn hx).mono ?_
  rintro e w' ⟨v', rfl, h1, h2, h3⟩
  exact ⟨v', rfl, by rw [List.take_length, List.drop_length]; exact h1, h2, h3⟩
 ·rcases ho.cases with ⟨rfl, rfl⟩ | ⟨g, c, cur, rfl, hSg, hg, hcap, hmax, hsz, htk⟩
  ·simp at hi; exact absurd hi he
  ·by_cases hroom : es.length + 1 <= c
   ·refine (ins_room G w g c cur es x b i hSg hn hg hcap hmax hsz htk hx (fun e => hb (by rw [e]; rfl)) (by omega) hroom).mono ?_
    rintro e w' ⟨rfl, h1, h2⟩
    exact ⟨_, rfl, h1, h2.mono (fun k _ hk => by rw [hk]; rfl), fun k hk => Or.inl hk⟩
   ·refine (ins_grow G w g c cur es x b i hG hn hg hcap hmax hsz htk hx (by omega) (by omega)).mono ?_
    rintro e w' ⟨v', rfl, h1, h2, h3⟩
    exact ⟨_, rfl, h1, h2.of_none, fun k hk => Or.inr (h3 k hk)⟩
set_option maxHeartbeats 1000000 in
theorem put_any (G : Nat -> Prop) (w : World) (a : Addr) (v : Value) (es : List Ent) (name : ByteArray) (n : Int) (h : IsDir G w a v es) (hn : es.length < 4294967295) (hG : ∀ g, w.heap.size <= g -> G g) :
 Calls Tryz.prog 89 #[.pointer (some a), .string name, .int .i64 n] w fun e w' =>
  e = .returned (.int .i64 (putErr es name)) ∧ DirTo G w w' a (putTo es name n) := by
 have hfind := find_any G w a v es name h (by omega)
 have hlt := lt_of_cell h.cell
 by_cases hlong : 255 < name.size
 ·have he : putErr es name = 18 := by simp [putErr, hlong]
  have He := Lib.hid he
  clear he
  go_enter Tryz.func89, Tryz.ntmps89
  go_wp2_with (go_at_call 121; refine hfind.mono ?_; rintro e w1 ⟨rfl, hk1⟩)
  go_ret
  exact ⟨by rw [He.out]; rfl, by rw [putTo, if_neg (by rw [He.out]; decide)]; exact DirTo.same h hk1⟩
 ·by_cases hok : okName name = true
  ·cases hhas : entHas es name with
   | true =>
     have he : putErr es name = 13 := by simp [putErr, hlong, hok, hhas]
     have He := Lib.hid he
     rw [hhas] at hfind
     clear he hhas
     go_enter Tryz.func89, Tryz.ntmps89
     go_wp2_with (first | (go_at_call 121; refine hfind.mono ?_; rintro e w1 ⟨rfl, hk1⟩) | (go_at_call 122; refine (name_any _ _).mono ?_; rintro e w2 ⟨rfl, rfl⟩))
     go_ret
     exact ⟨by rw [He.out]; rfl, by rw [putTo, if_neg (by rw [He.out]; decide)]; exact DirTo.same h hk1⟩
   | false =>
     have he : putErr es name = 0 := by simp [putErr, hlong, hok, hhas]
     have He := Lib.hid he
     have Hhas := Lib.hid hhas
     rw [hhas] at hfind
     have Hfind := Lib.hid hfind
     clear he hhas hfind
     go_enter Tryz.func89, Tryz.ntmps89
     go_wp2_with (fail)
     refine Hfind.out.mono ?_
     rintro e w1 ⟨rfl, hk1⟩
     have hc := (hk1.cell hlt (fun h => h)).trans h.cell
     have hfz := (hk1.frozen hlt (fun h => h)).trans h.free
     have ho1 := h.own.keep hk1 (fun _ _ h => h)
     have ho2 : Own encEnt 133 G (w1.alloc (.cells #[.string name, .int .i64 n] 133)) v es := ho1.keep ((Keeps.refl NoB w1).alloc _) (fun _ _ h => h)
     have hins := ins_any G _ v es (name, n) w1.heap.size (lb es name) ho2 (hG _ (by have := hk1.size; simp; omega)) hn (heap_alloc_new w1 _) (fun e => absurd (ho1.lt _ e) (by omega)) (lb_le es name)
     have Hins := Lib.hid hins
     clear hins
     go_wp2_with (first | (go_at_call 122; refine (name_any _ _).mono ?_; rintro e w2 ⟨rfl, rfl⟩) | (go_at_call 123; fail))
     refine Hins.out.mono ?_
     rintro e w3 ⟨v', rfl, ho3, hk3, hf3⟩
     have hlt1 : a.block < w1.heap.size := Nat.lt_of_lt_of_le hlt hk1.size
     have hap := h.apart
     have hc3 : w3.cell? a = some v := (hk3.cell (by simp; omega) hap).trans (((Keeps.refl NoB w1).alloc _).cell hlt1 (fun h => h) |>.trans hc)
     have hf4 : w3.frozen? a = false := (hk3.frozen (by simp; omega) hap).trans (((Keeps.refl NoB w1).alloc _).frozen hlt1 (fun h => h) |>.trans hfz)
     rw [put_at h.rising name n Hhas.out] at ho3
     have hto := DirTo.store h (hk1.alloc _) ho3 hk3 hf3 (h.rising.put name n) (fun e he => by
      simp only [entPut, List.mem_append, List.mem_filter, List.mem_singleton] at he
      rcases he with (⟨he, _⟩ | rfl) | ⟨he, _⟩
      ·exact h.names e he
      ·exact hok
      ·exact h.names e he)
     have Hto := Lib.hid hto
     clear hto hap
     obtain ⟨p3, c3, hv3, _⟩ := ho3.sl
     subst hv3
     go_wp2_with fail
     go_ret
     exact ⟨by rw [He.out]; rfl, by rw [putTo, if_pos He.out]; exact Hto.out⟩
  ·have hok' : okName name = false := by simpa using hok
   have he : putErr es name = 11 := by simp [putErr, hlong, hok']
   have He := Lib.hid he
   clear he
   go_enter Tryz.func89, Tryz.ntmps89
   go_wp2_with (first | (go_at_call 121; refine hfind.mono ?_; rintro e w1 ⟨rfl, hk1⟩) | (go_at_call 122; refine (name_any _ _).mono ?_; rintro e w2 ⟨rfl, rfl⟩))
   go_ret
   exact ⟨by rw [He.out]; rfl, by rw [putTo, if_neg (by rw [He.out]; decide)]; exact DirTo.same h hk1⟩
theorem Own.stored {α : Type} {E : Enc α} {e : TypeId} {S : Nat -> Prop} {w : World} {l : List α} {g c : Nat} (h : Own E e S w (.slice (some ⟨g, 0, none⟩) l.length c) l) (i : Nat) (j : Nat) (x y : α) (u : Value)
 (hi : l[i]? = some x) (hj : j < E.k) (hy : E.enc y = (E.enc x).set j u) : Own E e S (w.setCell ⟨g, i * E.k + j, none⟩ u) (.slice (some ⟨g, 0, none⟩) l.length c) (l.set i y) := by
 obtain ⟨h1, h2⟩ := h
 have hs := (World.ownsRow.stored h1 (i * E.k + j) u).1
 have hl : (l.set i y).length = l.length := by simp
 refine ⟨?_, h2⟩
 rw [hl]
 have : (l.set i y).flatMap E.enc = (l.flatMap E.enc).set (i * E.k + j) u := by
  apply List.ext_getElem?
  intro q
  have hk := E.pos
  have hd : q = q / E.k * E.k + q % E.k := by rw [Nat.mul_comm]; exact (Nat.div_add_mod q E.k).symm
  have hm := Nat.mod_lt q hk
  rw [List.getElem?_set, hd, E.flat_get _ _ _ hm, E.flat_get _ _ _ hm, List.getElem?_set]
  have hil := (List.getElem?_eq_some_iff.1 hi).1
  by_cases e : i = q / E.k
  ·subst e
   rw [if_pos rfl, if_pos hil]
   simp only [Option.bind_some, hy, List.getElem?_set, E.len, hj, if_true]
   by_cases e2 : j = q % E.k
   ·subst e2
    rw [if_pos rfl, if_pos rfl, if_pos (by rw [E.flat_len]; have := Nat.mul_le_mul_right E.k (Nat.succ_le_of_lt hil); rw [Nat.succ_mul] at this; omega)]
   ·rw [if_neg e2, if_neg (by omega), hi]; rfl
  ·rw [if_neg e, if_neg]
   intro e3
   apply e
   have h1 := congrArg (· / E.k) e3
   have f1 : (i * E.k + j) / E.k = i := by rw [Nat.mul_comm, Nat.mul_add_div hk, Nat.div_eq_of_lt hj]; rfl
   have f2 : (q / E.k * E.k + q % E.k) / E.k = q / E.k := by rw [<- hd]
   rw [f1, f2] at h1
   exact h1
 rw [this]
 exact hs
set_option maxHeartbeats 1000000 in
theorem set_any (G : Nat -> Prop) (w : World) (a : Addr) (v : Value) (es : List Ent) (name : ByteArray) (n : Int) (h : IsDir G w a v es) (hn : es.length < 4294967295) :
 Calls Tryz.prog 164 #[.pointer (some a), .string name, .int .i64 n] w fun e w' =>
  e = .returned (.int .i64 (hasErr es name)) ∧ DirTo G w w' a (entSet es name n) := by
 have hfind := find_any G w a v es name h (by omega)
 have hlt := lt_of_cell h.cell
 have hhas := lb_has h.rising name
 cases hh : entHas es name with
 | false =>
   have He : Hid (hasErr es name = 12) := by rw [hasErr, hh]; rfl
   have hse : entSet es name n = es := by
    unfold entSet
    conv => rhs; rw [<- List.map_id es]
    refine List.map_congr_left fun x hx => ?_
    rw [if_neg, id]
    intro e
    have : entHas es name = true := List.any_eq_true.2 ⟨x, hx, by simp [e]⟩
    rw [this] at hh; cases hh
   have Hse := Lib.hid hse
   rw [hh] at hfind
   clear hh hse hhas
   go_enter Tryz.func164, Tryz.ntmps164
   go_wp2_with (go_at_call 121; refine hfind.mono ?_; rintro e w1 ⟨rfl, hk1⟩)
   go_ret
   exact ⟨by rw [He.out]; rfl, by rw [Hse.out]; exact DirTo.same h hk1⟩
 | true =>
   have He : Hid (hasErr es name = 0) := by rw [hasErr, hh]; rfl
   rw [hh] at hhas
   cases hl : es[lb es name]? with
   | none => rw [hl] at hhas; cases hhas
   | some x =>
     rw [hl] at hhas
     have hx : x.1 = name := by simpa using hhas.symm
     have Hset := Lib.hid (set_at h.rising name n hl hx)
     have hll := (List.getElem?_eq_some_iff.1 hl).1
     rcases h.own.cases with ⟨_, h0⟩ | ⟨g, c, cur, hv, hSg, hg, hcap, hmax, hsz, htk⟩
     ·subst h0; simp at hl
     ·subst hv
      have Hl := Lib.hid hl
      have Hx := Lib.hid hx
      rw [hh] at hfind
      have Hfind := Lib.hid hfind
      unfold maxLen at hmax
      clear hh hhas hl hx hfind
      go_enter Tryz.func164, Tryz.ntmps164
      go_wp2_with (fail)
      refine Hfind.out.mono ?_
      rintro e w1 ⟨rfl, hk1⟩
      have hc := (hk1.cell hlt (fun h => h)).trans h.cell
      have ho1 := h.own.keep hk1 (fun _ _ h => h)
      obtain ⟨p, c', hpc, hs1⟩ := ho1.sl
      cases hpc
      obtain ⟨g', off, hgo, _, hgl, c0, c1⟩ := hs1.ent Hl.out
      cases hgo
      have hg1 := (hk1.block g (lt_of_block hg) (fun h => h)).trans hg
      have hfz : ∀ j, w1.frozen? ⟨g, j, none⟩ = false := fun j => frozen_of_row w1 g j cur _ hg1
      rw [Nat.zero_add] at c0 c1
      go_wp2_with fail
      go_ret
      refine ⟨by rw [He.out]; rfl, _, ⟨?_, ?_, h.spot, ?_, h.rising.set name n, ?_, h.apart⟩, ?_⟩
      rotate_left 2
      ·have := ho1.stored (lb es name) 1 x (x.1, n) (.int .i64 n) Hl.out (by decide) rfl
       rw [Hset.out] at this
       have hlen : (entSet es name n).length = es.length := by simp [entSet]
       have hk2e : encEnt.k = 2 := rfl
       rw [hk2e] at this
       exact this
      ·intro e he
       unfold entSet at he
       obtain ⟨y, hy, rfl⟩ := List.mem_map.1 he
       split <;> exact h.names y hy
      ·rw [setCell_self h.cell]
       exact (hk1.of_none).setCell (Or.inl hSg) _
      ·rw [World.cell?_setCell_other _ _ _ _ (fun e => h.apart (by rw [<- e]; rfl))]
       exact hc
      ·rw [World.frozen?_setCell]
       exact (hk1.frozen hlt (fun h => h)).trans h.free
set_option maxHeartbeats 1000000 in
theorem drop_any (G : Nat -> Prop) (w : World) (a : Addr) (v : Value) (es : List Ent) (name : ByteArray) (h : IsDir G w a v es) (hn : es.length < 4294967295) :
 Calls Tryz.prog 90 #[.pointer (some a), .string name] w fun e w' =>
  e = .returned (.int .i64 (hasErr es name)) ∧ DirTo G w w' a (entDel es name) := by
 have hfind := find_any G w a v es name h (by omega)
 have hlt := lt_of_cell h.cell
 have hhas := lb_has h.rising name
 cases hh : entHas es name with
 | false =>
   have He : Hid (hasErr es name = 12) := by rw [hasErr, hh]; rfl
   have hse : entDel es name = es := by
    unfold entDel
    refine List.filter_eq_self.2 fun x hx => ?_
    cases hc : decide (x.1 = name) with
    | false => rfl
    | true =>
      have : entHas es name = true := List.any_eq_true.2 ⟨x, hx, hc⟩
      rw [this] at hh; cases hh
   have Hse := Lib.hid hse
   rw [hh] at hfind
   clear hh hse hhas
   go_enter Tryz.func90, Tryz.ntmps90
   go_wp2_with (go_at_call 121; refine hfind.mono ?_; rintro e w1 ⟨rfl, hk1⟩)
   go_ret
   exact ⟨by rw [He.out]; rfl, by rw [Hse.out]; exact DirTo.same h hk1⟩
 | true =>
   have He : Hid (hasErr es name = 0) := by rw [hasErr, hh]; rfl
   rw [hh] at hhas
   cases hl : es[lb es name]? with
   | none => rw [hl] at hhas; cases hhas
   | some x =>
     have Hdel := Lib.hid (del_at h.rising name hh)
     have hll := (List.getElem?_eq_some_iff.1 hl).1
     rcases h.own.cases with ⟨_, h0⟩ | ⟨g, c, cur, hv, hSg, hg, hcap, hmax, hsz, htk⟩
     ·subst h0; simp at hl
     ·subst hv
      rw [hh] at hfind
      have Hfind := Lib.hid hfind
      clear hh hhas hl hfind
      go_enter Tryz.func90, Tryz.ntmps90
      go_wp2_with (fail)
      refine Hfind.out.mono ?_
      rintro e w1 ⟨rfl, hk1⟩
      have hlt1 : a.block < w1.heap.size := Nat.lt_of_lt_of_le hlt hk1.size
      have hc := (hk1.cell hlt (fun h => h)).trans h.cell
      have hfz := (hk1.frozen hlt (fun h => h)).trans h.free
      have hg1 := (hk1.block g (lt_of_block hg) (fun h => h)).trans hg
      have hdel := del_own G w1 g c cur es (lb es name) hSg hn hg1 hcap hmax hsz htk hll
      rw [Hdel.out] at hdel
      have Hdel2 := Lib.hid hdel
      clear hdel
      go_wp2_with (go_at_call 124; fail)
      refine Hdel2.out.mono ?_
      rintro e w2 ⟨rfl, ho2, hk2⟩
      have hap : ¬ a.block = g := fun e => h.apart (by rw [e]; rfl)
      have hc2 : w2.cell? a = some _ := (hk2.cell hlt1 hap).trans hc
      have hf2 : w2.frozen? a = false := (hk2.frozen hlt1 hap).trans hfz
      have hto := DirTo.store h hk1 ho2 (hk2.mono (fun k _ hk => by rw [hk]; rfl)) (fun k hk => Or.inl hk) (h.rising.del name) (fun e he => h.names e (List.mem_filter.1 he).1)
      have Hto := Lib.hid hto
      clear hto hap
      go_wp2_with fail
      go_ret
      exact ⟨by rw [He.out]; rfl, Hto.out⟩
def IsD (w : World) (a : Addr) (v : Value) (es : List Ent) : Prop := IsDir (fun g => v.ownBlock = some g) w a v es
theorem IsDir.d {G : Nat -> Prop} {w : World} {a : Addr} {v : Value} {es : List Ent} (h : IsDir G w a v es) : IsD w a v es :=
 ⟨h.cell, h.free, h.spot, h.own.mono (fun _ hg _ => hg), h.rising, h.names, h.apart⟩
theorem IsD.any {G : Nat -> Prop} {w : World} {a : Addr} {v : Value} {es : List Ent} (h : IsD w a v es) (hG : ∀ g, v.ownBlock = some g -> G g) : IsDir G w a v es :=
 ⟨h.cell, h.free, h.spot, h.own.mono (fun g hg _ => hG g hg), h.rising, h.names, h.apart⟩
theorem IsD.lt {w : World} {a : Addr} {v : Value} {es : List Ent} (h : IsD w a v es) : a.block < w.heap.size := lt_of_cell h.cell
theorem IsD.ownlt {w : World} {a : Addr} {v : Value} {es : List Ent} (h : IsD w a v es) : ∀ g, v.ownBlock = some g -> g < w.heap.size := h.own.lt
theorem IsD.keep {F : Nat -> Prop} {w w' : World} {a : Addr} {v : Value} {es : List Ent} (h : IsD w a v es) (hk : Keeps F w w') (ha : ¬ F a.block) (ho : ∀ g, v.ownBlock = some g -> ¬ F g) : IsD w' a v es :=
 ⟨(hk.cell h.lt ha).trans h.cell, (hk.frozen h.lt ha).trans h.free, h.spot, h.own.keep hk ho, h.rising, h.names, h.apart⟩
def DTo (w w' : World) (a : Addr) (v : Value) (es' : List Ent) : Prop :=
 ∃ v', IsD w' a v' es' ∧ Keeps (fun g => v.ownBlock = some g) (w.setCell a v') w' ∧ ∀ g, v'.ownBlock = some g -> v.ownBlock = some g ∨ w.heap.size <= g
theorem DirTo.d {w w' : World} {a : Addr} {v : Value} {es' : List Ent} (h : DirTo (fun g => v.ownBlock = some g ∨ w.heap.size <= g) w w' a es') : DTo w w' a v es' := by
 obtain ⟨v', h1, h2⟩ := h
 refine ⟨v', h1.d, h2.mono (fun g hg h => h.elim id (fun h => ?_)), h1.own.2⟩
 have : (w.setCell a v').heap.size = w.heap.size := by simp [World.setCell]
 omega
theorem put_d (w : World) (a : Addr) (v : Value) (es : List Ent) (name : ByteArray) (n : Int) (h : IsD w a v es) (hn : es.length < 4294967295) :
 Calls Tryz.prog 89 #[.pointer (some a), .string name, .int .i64 n] w fun e w' => e = .returned (.int .i64 (putErr es name)) ∧ DTo w w' a v (putTo es name n) :=
 (put_any _ w a v es name n (h.any (G := fun g => v.ownBlock = some g ∨ w.heap.size <= g) (fun g hg => .inl hg)) hn (fun g hg => .inr hg)).mono fun _ _ ⟨h1, h2⟩ => ⟨h1, h2.d⟩
theorem set_d (w : World) (a : Addr) (v : Value) (es : List Ent) (name : ByteArray) (n : Int) (h : IsD w a v es) (hn : es.length < 4294967295) :
 Calls Tryz.prog 164 #[.pointer (some a), .string name, .int .i64 n] w fun e w' => e = .returned (.int .i64 (hasErr es name)) ∧ DTo w w' a v (entSet es name n) :=
 (set_any _ w a v es name n (h.any (G := fun g => v.ownBlock = some g ∨ w.heap.size <= g) (fun g hg => .inl hg)) hn).mono fun _ _ ⟨h1, h2⟩ => ⟨h1, h2.d⟩
theorem drop_d (w : World) (a : Addr) (v : Value) (es : List Ent) (name : ByteArray) (h : IsD w a v es) (hn : es.length < 4294967295) :
 Calls Tryz.prog 90 #[.pointer (some a), .string name] w fun e w' => e = .returned (.int .i64 (hasErr es name)) ∧ DTo w w' a v (entDel es name) :=
 (drop_any _ w a v es name (h.any (G := fun g => v.ownBlock = some g ∨ w.heap.size <= g) (fun g hg => .inl hg)) hn).mono fun _ _ ⟨h1, h2⟩ => ⟨h1, h2.d⟩
theorem DTo.keeps {F : Nat -> Prop} {W w w' : World} {a : Addr} {v : Value} {es' : List Ent} (h : DTo w w' a v es') (hk : Keeps F W w) (ha : F a.block ∨ W.heap.size <= a.block) (hv : ∀ g, v.ownBlock = some g -> F g ∨ W.heap.size <= g) : Keeps F W w' := by
 obtain ⟨v', _, h2, _⟩ := h
 exact (hk.setCell ha v').step h2 hv
theorem DTo.size {w w' : World} {a : Addr} {v : Value} {es' : List Ent} (h : DTo w w' a v es') : w.heap.size <= w'.heap.size := by
 obtain ⟨v', _, h2, _⟩ := h
 have := h2.size
 simpa [World.setCell] using this
theorem okName_small {s : ByteArray} (h : okName s = true) : ¬ 255 < s.size := by simp [okName] at h; omega
theorem putErr_zero {l : List Ent} {name : ByteArray} : putErr l name = 0 ↔ okName name = true ∧ entHas l name = false := by
 unfold putErr
 constructor
 ·intro h
  split at h; · cases h
  split at h; · cases h
  split at h; · cases h
  ·next h2 h3 => exact ⟨by simpa using h2, by simpa using h3⟩
 ·rintro ⟨h1, h2⟩
  rw [if_neg (okName_small h1), if_neg (by simp [h1]), if_neg (by simp [h2])]
theorem IsD.new (w : World) (t : TypeId) : IsD (w.alloc (.cells #[.slice none 0 0] t)) ⟨w.heap.size, 0, none⟩ (.slice none 0 0) [] :=
 ⟨cell_of_row _ _ _ _ _ _ (heap_alloc_new w _), frozen_of_row _ _ _ _ _ (heap_alloc_new w _), rfl, Own.nil _ _ _ _, List.Pairwise.nil, (fun _ h => by cases h), (fun h => by simp [Value.ownBlock] at h)⟩
end Go.Proofs.YtimidmogcbapnaaGreatDoor
