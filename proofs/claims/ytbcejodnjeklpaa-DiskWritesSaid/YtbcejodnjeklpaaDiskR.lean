/-
  How a disk lies in memory: its block, its map, its nodes' blocks, their rows; who owns which block (a tag for each).
-/
import Derived.Test.YtbcejodnjeklpaaMapW
import Derived.Test.YtbcejodnjeklpaaBytesW
import Derived.Test.YtbcejodnjeklpaaDirD
import Derived.Test.YtbcejodnjeklpaaDiskM
namespace Go.Proofs.Ytbcejodnjeklpaa
open Go.RowKit

/-- Whose a block is. -/
inductive Tag where
  | none | disk | map | node (i : Int) | data (i : Int) | dir (i : Int)

/-- Where a disk's parts lie. -/
structure RD where
  b : Nat
  kv : Kv
  g : Int → Nat
  dv : Int → Value
  ev : Int → Value
  tag : Nat → Tag

def RD.F (R : RD) : Nat → Prop := fun x => R.tag x ≠ .none
/-- The blocks of one node. -/
def RD.N (R : RD) (i : Int) : Nat → Prop := fun x => R.tag x = .node i ∨ R.tag x = .data i ∨ R.tag x = .dir i

/-- A node in memory. -/
structure NodeAt (w : World) (g : Nat) (dv ev : Value) (n : Nd) (lk up : Int) : Prop where
  kind : w.cell? ⟨g, 0, none⟩ = some (.int .i64 n.kind)
  mode : w.cell? ⟨g, 1, none⟩ = some (.int .i64 n.mode)
  links : w.cell? ⟨g, 2, none⟩ = some (.int .i64 lk)
  holds : w.cell? ⟨g, 3, none⟩ = some (.int .i64 n.holds)
  data : w.cell? ⟨g, 4, none⟩ = some dv
  own : OwnB (fun _ => True) w dv n.data
  dir : IsD w ⟨g, 5, none⟩ ev n.ents
  up : w.cell? ⟨g, 6, none⟩ = some (.int .i64 up)
  fz : ∀ j, w.frozen? ⟨g, j, none⟩ = false

theorem NodeAt.lt {w : World} {g : Nat} {dv ev : Value} {n : Nd} {lk up : Int} (h : NodeAt w g dv ev n lk up) : g < w.heap.size := lt_of_cell h.kind

theorem NodeAt.keep {F : Nat → Prop} {w w' : World} {g : Nat} {dv ev : Value} {n : Nd} {lk up : Int} (h : NodeAt w g dv ev n lk up) (k : Keeps F w w') (hg : ¬ F g) (hd : ∀ x, dv.ownBlock = some x → ¬ F x) (he : ∀ x, ev.ownBlock = some x → ¬ F x) :
    NodeAt w' g dv ev n lk up := by
  have hc : ∀ j, w'.cell? ⟨g, j, none⟩ = w.cell? ⟨g, j, none⟩ := fun j => k.cell (p := ⟨g, j, none⟩) h.lt hg
  have hf : ∀ j, w'.frozen? ⟨g, j, none⟩ = w.frozen? ⟨g, j, none⟩ := fun j => k.frozen (p := ⟨g, j, none⟩) h.lt hg
  exact ⟨(hc 0).trans h.kind, (hc 1).trans h.mode, (hc 2).trans h.links, (hc 3).trans h.holds, (hc 4).trans h.data, h.own.keep k hd, h.dir.keep k hg he, (hc 6).trans h.up, fun j => (hf j).trans (h.fz j)⟩

/-- A disk in memory: the nodes d; used: us; counters lk and up. -/
structure Rep (R : RD) (w : World) (a : Nat) (d : Nds) (room us : Int) (lk up : Int → Int) : Prop where
  l : w.cell? ⟨a, 0, none⟩ = some (.map (some R.b))
  next : w.cell? ⟨a, 1, none⟩ = some (.int .i64 d.length)
  used : w.cell? ⟨a, 2, none⟩ = some (.int .i64 us)
  room : w.cell? ⟨a, 3, none⟩ = some (.int .i64 room)
  fz : ∀ j, w.frozen? ⟨a, j, none⟩ = false
  tagA : R.tag a = .disk
  tagB : R.tag R.b = .map
  map : IMap w R.b R.kv
  get : ∀ i, kvGet R.kv i = if has d i then some (.pointer (some ⟨R.g i, 0, none⟩)) else none
  len : R.kv.length = count d
  tagN : ∀ i, has d i → R.tag (R.g i) = .node i
  tagD : ∀ i, has d i → ∀ x, (R.dv i).ownBlock = some x → R.tag x = .data i
  tagE : ∀ i, has d i → ∀ x, (R.ev i).ownBlock = some x → R.tag x = .dir i
  node : ∀ i, has d i → NodeAt w (R.g i) (R.dv i) (R.ev i) (nd d i) (lk i) (up i)
  top : ∀ x, w.heap.size ≤ x → R.tag x = .none

section
variable {R : RD} {w w' : World} {a : Nat} {d : Nds} {room us : Int} {lk up : Int → Int}

theorem Rep.alt (h : Rep R w a d room us lk up) : a < w.heap.size := lt_of_cell h.l

/-- What turns no block of the disk. -/
theorem Rep.keep {F : Nat → Prop} (h : Rep R w a d room us lk up) (k : Keeps F w w') (hF : ∀ x, x < w.heap.size → F x → R.tag x = .none) : Rep R w' a d room us lk up := by
  have hA : ¬ F a := fun hf => by have := hF a h.alt hf; rw [h.tagA] at this; cases this
  have hB : ¬ F R.b := fun hf => by have := hF R.b h.map.lt hf; rw [h.tagB] at this; cases this
  have hc : ∀ j, w'.cell? ⟨a, j, none⟩ = w.cell? ⟨a, j, none⟩ := fun j => k.cell (p := ⟨a, j, none⟩) h.alt hA
  have hf : ∀ j, w'.frozen? ⟨a, j, none⟩ = w.frozen? ⟨a, j, none⟩ := fun j => k.frozen (p := ⟨a, j, none⟩) h.alt hA
  refine ⟨(hc 0).trans h.l, (hc 1).trans h.next, (hc 2).trans h.used, (hc 3).trans h.room, fun j => (hf j).trans (h.fz j), h.tagA, h.tagB, h.map.keep k hB, h.get, h.len, h.tagN, h.tagD, h.tagE, fun i hi => ?_, fun x hx => h.top x (Nat.le_trans k.size hx)⟩
  have hn := h.node i hi
  refine hn.keep k (fun hf => ?_) (fun x hx hf => ?_) (fun x hx hf => ?_)
  · have := hF _ hn.lt hf; rw [h.tagN i hi] at this; cases this
  · have := hF _ (hn.own.lt x hx) hf; rw [h.tagD i hi x hx] at this; cases this
  · have := hF _ (hn.dir.ownlt x hx) hf; rw [h.tagE i hi x hx] at this; cases this

theorem Rep.keepN (h : Rep R w a d room us lk up) (k : Keeps NoB w w') : Rep R w' a d room us lk up := h.keep k (fun _ _ h => h.elim)

/-- What a call may have done to a disk's blocks: to no others; new ones may be the disk's. -/
structure Turn (R : RD) (w : World) (R' : RD) (w' : World) : Prop where
  keeps : Keeps R.F w w'
  same : ∀ x, x < w.heap.size → R'.tag x = R.tag x

theorem Turn.refl (R : RD) (w : World) : Turn R w R w := ⟨Keeps.refl _ _, fun _ _ => rfl⟩
theorem Turn.of (k : Keeps R.F w w') : Turn R w R w' := ⟨k, fun _ _ => rfl⟩
theorem Turn.ofN (k : Keeps NoB w w') : Turn R w R w' := ⟨k.of_none, fun _ _ => rfl⟩
theorem Turn.trans {R' R'' : RD} {w'' : World} (h : Turn R w R' w') (k : Turn R' w' R'' w'') : Turn R w R'' w'' :=
  ⟨h.keeps.trans' k.keeps (fun _ _ h => h) (fun x hx hf => by unfold RD.F at *; rwa [← h.same x hx]), fun x hx => (k.same x (Nat.lt_of_lt_of_le hx h.keeps.size)).trans (h.same x hx)⟩

theorem cell_set {w : World} {g j k : Nat} {v u : Value} (h : w.cell? ⟨g, j, none⟩ = some v) : (w.setCell ⟨g, k, none⟩ u).cell? ⟨g, j, none⟩ = some (if j = k then u else v) := by
  by_cases e : j = k
  · subst e; rw [if_pos rfl]; exact World.cell?_setCell_same _ _ _ h
  · rw [if_neg e, World.cell?_setCell_other _ _ _ _ (by simp [e])]; exact h

theorem keeps_set (w : World) (p : Addr) (u : Value) : Keeps (fun x => x = p.block) w (w.setCell p u) := Keeps.setCell (p := p) (Keeps.refl (fun x => x = p.block) w) (Or.inl rfl) u
theorem frozen_set (w : World) (p q : Addr) (u : Value) : (w.setCell p u).frozen? q = w.frozen? q := by simp

/-- The disk's own cells, stored: used, next. -/
theorem Rep.setUsed (h : Rep R w a d room us lk up) (us' : Int) : Rep R (w.setCell ⟨a, 2, none⟩ (.int .i64 us')) a d room us' lk up := by
  have k := keeps_set w ⟨a, 2, none⟩ (.int .i64 us')
  have hB : ¬ R.b = a := fun e => by have := h.tagB; rw [e, h.tagA] at this; cases this
  refine ⟨cell_set h.l, cell_set h.next, cell_set h.used, cell_set h.room, fun j => (frozen_set _ _ _ _).trans (h.fz j), h.tagA, h.tagB, h.map.keep k hB, h.get, h.len, h.tagN, h.tagD, h.tagE, fun i hi => ?_, fun x hx => h.top x (Nat.le_trans k.size hx)⟩
  have hn := h.node i hi
  refine hn.keep k (fun hf => ?_) (fun x hx hf => ?_) (fun x hx hf => ?_)
  · have := h.tagN i hi; simp only at hf; rw [hf, h.tagA] at this; cases this
  · have := h.tagD i hi x hx; simp only at hf; rw [hf, h.tagA] at this; cases this
  · have := h.tagE i hi x hx; simp only at hf; rw [hf, h.tagA] at this; cases this

theorem Rep.fA (h : Rep R w a d room us lk up) : R.F a := by unfold RD.F; rw [h.tagA]; exact fun h => by cases h
theorem Rep.fB (h : Rep R w a d room us lk up) : R.F R.b := by unfold RD.F; rw [h.tagB]; exact fun h => by cases h
theorem Rep.fN (h : Rep R w a d room us lk up) {i : Int} (hi : has d i) : R.F (R.g i) := by unfold RD.F; rw [h.tagN i hi]; exact fun h => by cases h
theorem RD.N.F {i : Int} {x : Nat} (h : R.N i x) : R.F x := by
  unfold RD.F
  rcases h with h | h | h <;> rw [h] <;> exact fun h => by cases h
theorem Rep.nN (h : Rep R w a d room us lk up) {i : Int} (hi : has d i) : R.N i (R.g i) := .inl (h.tagN i hi)

/-- A function but at one place. -/
def setAt {α : Type} (f : Int → α) (i : Int) (v : α) : Int → α := fun j => if j = i then v else f j
theorem setAt_same {α : Type} (f : Int → α) (i : Int) (v : α) : setAt f i v i = v := if_pos rfl
theorem setAt_other {α : Type} {f : Int → α} {i j : Int} {v : α} (h : j ≠ i) : setAt f i v j = f j := if_neg h

/-- One node has turned, in its own blocks. -/
theorem Rep.turn (h : Rep R w a d room us lk up) {i : Int} (hi : has d i) (k : Keeps (R.N i) w w') (dv ev : Value) (T : Nat → Tag) (hT : ∀ x, x < w.heap.size → T x = R.tag x) (hT' : ∀ x, w'.heap.size ≤ x → T x = .none)
    (hD : ∀ x, dv.ownBlock = some x → T x = .data i) (hE : ∀ x, ev.ownBlock = some x → T x = .dir i) {n : Nd} (hn : n.kind ≠ 0) {lk' up' : Int} (hN : NodeAt w' (R.g i) dv ev n lk' up') :
    Rep { R with dv := setAt R.dv i dv, ev := setAt R.ev i ev, tag := T } w' a (upd d i n) room us (setAt lk i lk') (setAt up i up') := by
  have hr := has_range hi
  have notN : ∀ {x t}, R.tag x = t → (t ≠ .node i ∧ t ≠ .data i ∧ t ≠ .dir i) → ¬ R.N i x := by
    rintro x t rfl ⟨h1, h2, h3⟩ (h | h | h)
    · exact h1 h
    · exact h2 h
    · exact h3 h
  have hA : ¬ R.N i a := notN h.tagA ⟨by simp, by simp, by simp⟩
  have hB : ¬ R.N i R.b := notN h.tagB ⟨by simp, by simp, by simp⟩
  have hc : ∀ j, w'.cell? ⟨a, j, none⟩ = w.cell? ⟨a, j, none⟩ := fun j => k.cell (p := ⟨a, j, none⟩) h.alt hA
  have hf : ∀ j, w'.frozen? ⟨a, j, none⟩ = w.frozen? ⟨a, j, none⟩ := fun j => k.frozen (p := ⟨a, j, none⟩) h.alt hA
  have hh : ∀ j, has (upd d i n) j ↔ has d j := fun j => by
    unfold has
    rw [nd_upd hr.1 hr.2]
    split
    · next e => subst e; exact ⟨fun _ => hi, fun _ => hn⟩
    · rfl
  have hcount : count (upd d i n) = count d := by
    have := sumBy_upd here1 hr.1 hr.2 n
    have h1 : here1 n = 1 := by unfold here1; rw [if_neg hn]
    have h2 : here1 (nd d i) = 1 := by unfold here1; rw [if_neg hi]
    unfold count
    omega
  refine ⟨(hc 0).trans h.l, ?_, (hc 2).trans h.used, (hc 3).trans h.room, fun j => (hf j).trans (h.fz j), ?_, ?_, h.map.keep k hB, fun j => ?_, h.len.trans hcount.symm, fun j hj => ?_, fun j hj x hx => ?_, fun j hj x hx => ?_, fun j hj => ?_, hT'⟩
  · rw [upd_length]; exact (hc 1).trans h.next
  · exact (hT a h.alt).trans h.tagA
  · exact (hT R.b h.map.lt).trans h.tagB
  · rw [h.get j]; simp only [hh]
  · have hj := (hh j).1 hj
    exact (hT _ (h.node j hj).lt).trans (h.tagN j hj)
  · have hj' := (hh j).1 hj
    simp only [setAt] at hx
    split at hx
    · next e => subst e; exact hD x hx
    · exact (hT _ ((h.node j hj').own.lt x hx)).trans (h.tagD j hj' x hx)
  · have hj' := (hh j).1 hj
    simp only [setAt] at hx
    split at hx
    · next e => subst e; exact hE x hx
    · exact (hT _ ((h.node j hj').dir.ownlt x hx)).trans (h.tagE j hj' x hx)
  · have hj' := (hh j).1 hj
    rw [nd_upd hr.1 hr.2]
    simp only [setAt]
    by_cases e : j = i
    · subst e; simp only [if_true]; exact hN
    · simp only [e, if_false]
      refine (h.node j hj').keep k ?_ (fun x hx => ?_) (fun x hx => ?_)
      · exact notN (h.tagN j hj') ⟨by simp [e], by simp, by simp⟩
      · exact notN (h.tagD j hj' x hx) ⟨by simp, by simp [e], by simp⟩
      · exact notN (h.tagE j hj' x hx) ⟨by simp, by simp, by simp [e]⟩

theorem setAt_self {α : Type} {f : Int → α} {i : Int} : setAt f i (f i) = f := by
  funext j
  unfold setAt
  split
  · next e => rw [e]
  · rfl

theorem upd_self {d : Nds} {i : Int} (h : has d i) : upd d i (nd d i) = d := by
  have hr := has_range h
  unfold upd
  rw [if_pos hr.1]
  have := nd_get hr.1 hr.2
  apply List.ext_getElem?
  intro j
  rw [List.getElem?_set]
  split
  · next e => subst e; rw [if_pos hr.2, this]
  · rfl

/-- A node's plain cells, stored. -/
theorem NodeAt.set {g : Nat} {dv ev : Value} {n : Nd} {lk up : Int} (h : NodeAt w g dv ev n lk up) (hd : ¬ dv.ownBlock = some g) (j : Nat) (v : Int) (hj : j < 4 ∨ j = 6) (n' : Nd) (lk' up' : Int)
    (h0 : n'.kind = if 0 = j then v else n.kind) (h1 : n'.mode = if 1 = j then v else n.mode) (h2 : lk' = if 2 = j then v else lk) (h3 : n'.holds = if 3 = j then v else n.holds) (h4 : n'.data = n.data) (h5 : n'.ents = n.ents) (h6 : up' = if 6 = j then v else up) :
    NodeAt (w.setCell ⟨g, j, none⟩ (.int .i64 v)) g dv ev n' lk' up' := by
  have k := keeps_set w ⟨g, j, none⟩ (.int .i64 v)
  have hap := h.dir.apart
  have wrap : ∀ (c : Nat) (x : Int), (if c = j then Value.int .i64 v else .int .i64 x) = .int .i64 (if c = j then v else x) := fun c x => by split <;> rfl
  refine ⟨?_, ?_, ?_, ?_, ?_, ?_, ?_, ?_, fun i => (frozen_set _ _ _ _).trans (h.fz i)⟩
  · rw [cell_set h.kind, h0, wrap]
  · rw [cell_set h.mode, h1, wrap]
  · rw [cell_set h.links, h2, wrap]
  · rw [cell_set h.holds, h3, wrap]
  · rw [cell_set h.data, if_neg (by omega)]
  · rw [h4]; exact h.own.keep k (fun x hx e => by simp only at e; subst e; exact hd hx)
  · rw [h5]
    refine ⟨?_, (frozen_set _ _ _ _).trans h.dir.free, h.dir.spot, h.dir.own.keep k (fun x hx e => by simp only at e; subst e; exact hap hx), h.dir.rising, h.dir.names, hap⟩
    have := h.dir.cell
    rw [cell_set this, if_neg (by omega)]
  · rw [cell_set h.up, h6, wrap]

theorem Rep.dvne (h : Rep R w a d room us lk up) {i : Int} (hi : has d i) : ¬ (R.dv i).ownBlock = some (R.g i) := fun e => by
  have := h.tagD i hi _ e
  rw [h.tagN i hi] at this
  cases this

/-- A store into a plain cell of a node. -/
theorem Rep.setNode (h : Rep R w a d room us lk up) {i : Int} (hi : has d i) (j : Nat) (v : Int) (hj : j < 4 ∨ j = 6) (n' : Nd) (lk' up' : Int) (hk : n'.kind ≠ 0)
    (h0 : n'.kind = if 0 = j then v else (nd d i).kind) (h1 : n'.mode = if 1 = j then v else (nd d i).mode) (h2 : lk' = if 2 = j then v else lk i) (h3 : n'.holds = if 3 = j then v else (nd d i).holds) (h4 : n'.data = (nd d i).data) (h5 : n'.ents = (nd d i).ents) (h6 : up' = if 6 = j then v else up i) :
    Rep R (w.setCell ⟨R.g i, j, none⟩ (.int .i64 v)) a (upd d i n') room us (setAt lk i lk') (setAt up i up') := by
  have hn := (h.node i hi).set (h.dvne hi) j v hj n' lk' up' h0 h1 h2 h3 h4 h5 h6
  have k := keeps_set w ⟨R.g i, j, none⟩ (.int .i64 v)
  have := h.turn hi (k.mono (fun x _ hx => by simp only at hx; subst hx; exact h.nN hi)) (R.dv i) (R.ev i) R.tag (fun _ _ => rfl) (fun x hx => h.top x (Nat.le_trans k.size hx)) (h.tagD i hi) (h.tagE i hi) hk hn
  rwa [setAt_self, setAt_self] at this

theorem Rep.setLinks (h : Rep R w a d room us lk up) {i : Int} (hi : has d i) (v : Int) : Rep R (w.setCell ⟨R.g i, 2, none⟩ (.int .i64 v)) a d room us (setAt lk i v) up := by
  have := h.setNode hi 2 v (by omega) (nd d i) v (up i) hi rfl rfl rfl rfl rfl rfl rfl
  rwa [upd_self hi, setAt_self] at this

theorem Rep.setUp (h : Rep R w a d room us lk up) {i : Int} (hi : has d i) (v : Int) : Rep R (w.setCell ⟨R.g i, 6, none⟩ (.int .i64 v)) a d room us lk (setAt up i v) := by
  have := h.setNode hi 6 v (by omega) (nd d i) (lk i) v hi rfl rfl rfl rfl rfl rfl rfl
  rwa [upd_self hi, setAt_self] at this

theorem Rep.setHolds (h : Rep R w a d room us lk up) {i : Int} (hi : has d i) (v : Int) : Rep R (w.setCell ⟨R.g i, 3, none⟩ (.int .i64 v)) a (upd d i ((nd d i).setHolds v)) room us lk up := by
  have := h.setNode hi 3 v (by omega) ((nd d i).setHolds v) (lk i) (up i) hi rfl rfl rfl rfl rfl rfl rfl
  rwa [setAt_self, setAt_self] at this

theorem Rep.setMode (h : Rep R w a d room us lk up) {i : Int} (hi : has d i) (v : Int) : Rep R (w.setCell ⟨R.g i, 1, none⟩ (.int .i64 v)) a (upd d i ((nd d i).setMode v)) room us lk up := by
  have := h.setNode hi 1 v (by omega) ((nd d i).setMode v) (lk i) (up i) hi rfl rfl rfl rfl rfl rfl rfl
  rwa [setAt_self, setAt_self] at this

end

end Go.Proofs.Ytbcejodnjeklpaa
