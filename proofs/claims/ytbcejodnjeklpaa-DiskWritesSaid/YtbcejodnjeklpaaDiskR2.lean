/-
  A disk in memory: a node more, a node less, another row of bytes, another row of entries.
-/
import Derived.Test.YtbcejodnjeklpaaDiskR
namespace Go.Proofs.Ytbcejodnjeklpaa
open Go.RowKit

section
variable {R : RD} {w w' : World} {a : Nat} {d : Nds} {room us : Int} {lk up : Int → Int}

theorem kvGet_del (l : Kv) (k j : Int) : kvGet (kvDel l k) j = if j = k then none else kvGet l j := by
  unfold kvGet kvDel
  induction l with
  | nil => simp
  | cons x l ih =>
    rw [List.filter_cons, List.find?_cons]
    by_cases e : x.1 = k
    · simp only [e, decide_true, Bool.not_true, Bool.false_eq_true, if_false]
      rw [ih]
      by_cases e2 : j = k
      · simp [e2]
      · simp [e2, Ne.symm e2]
    · simp only [e, decide_false, Bool.not_false, if_true, List.find?_cons]
      by_cases e3 : x.1 = j
      · subst e3; simp [e]
      · simp only [e3, decide_false]; exact ih

theorem kvDel_len {l : Kv} (hn : (l.map (·.1)).Nodup) {k : Int} {v : Value} (h : kvGet l k = some v) : (kvDel l k).length + 1 = l.length := by
  induction l with
  | nil => simp [kvGet] at h
  | cons x l ih =>
    rw [List.map_cons, List.nodup_cons] at hn
    by_cases e : x.1 = k
    · have : kvDel (x :: l) k = l := by
        unfold kvDel
        rw [List.filter_cons]
        simp only [e, decide_true, Bool.not_true, Bool.false_eq_true, if_false]
        exact kvDel_none fun y hy e2 => hn.1 (List.mem_map.2 ⟨y, hy, e2.trans e.symm⟩)
      rw [this]; rfl
    · have h1 : kvDel (x :: l) k = x :: kvDel l k := by simp [kvDel, List.filter_cons, e]
      have h2 : kvGet l k = some v := by simpa [kvGet, List.find?_cons, e] using h
      rw [h1, List.length_cons, List.length_cons, ih hn.2 h2]

/-- A node is gone: its pair is out of the map. -/
theorem Rep.kill (h : Rep R w a d room us lk up) {i : Int} (hi : has d i) (k : Keeps (fun x => x = R.b) w w') (hm : IMap w' R.b (kvDel R.kv i)) :
    Rep { R with kv := kvDel R.kv i } w' a (kill d i) room us lk up := by
  have hA : ¬ a = R.b := fun e => by have := h.tagB; rw [← e, h.tagA] at this; cases this
  have hc : ∀ j, w'.cell? ⟨a, j, none⟩ = w.cell? ⟨a, j, none⟩ := fun j => k.cell (p := ⟨a, j, none⟩) h.alt hA
  have hf : ∀ j, w'.frozen? ⟨a, j, none⟩ = w.frozen? ⟨a, j, none⟩ := fun j => k.frozen (p := ⟨a, j, none⟩) h.alt hA
  have hg : kvGet R.kv i = some (.pointer (some ⟨R.g i, 0, none⟩)) := by rw [h.get i, if_pos hi]
  have hl := kvDel_len h.map.nodup hg
  have hcnt := count_kill hi
  refine ⟨(hc 0).trans h.l, ?_, (hc 2).trans h.used, (hc 3).trans h.room, fun j => (hf j).trans (h.fz j), h.tagA, h.tagB, hm, fun j => ?_, ?_, fun j hj => h.tagN j ((has_kill hi).1 hj).2, fun j hj => h.tagD j ((has_kill hi).1 hj).2,
    fun j hj => h.tagE j ((has_kill hi).1 hj).2, fun j hj => ?_, fun x hx => h.top x (Nat.le_trans k.size hx)⟩
  · rw [kill_length]; exact (hc 1).trans h.next
  · show kvGet (kvDel R.kv i) j = _
    rw [kvGet_del]
    by_cases e : j = i
    · subst e
      rw [if_pos rfl, if_neg (fun hh => ((has_kill hi).1 hh).1 rfl)]
    · rw [if_neg e, h.get j]
      simp only [has_kill hi, e, ne_eq, not_false_eq_true, true_and]
  · show (kvDel R.kv i).length = _
    have := h.len
    omega
  · obtain ⟨h1, h2⟩ := (has_kill hi).1 hj
    rw [nd_kill hi, if_neg h1]
    refine (h.node j h2).keep k (fun e => ?_) (fun x hx e => ?_) (fun x hx e => ?_)
    · have := h.tagN j h2; rw [e, h.tagB] at this; cases this
    · have := h.tagD j h2 x hx; rw [e, h.tagB] at this; cases this
    · have := h.tagE j h2 x hx; rw [e, h.tagB] at this; cases this

theorem nd_append (d : Nds) (n : Nd) (j : Int) : nd (d ++ [n]) j = if j = d.length then n else nd d j := by
  unfold nd
  by_cases h0 : 0 ≤ j
  · rw [if_pos h0, if_pos h0]
    by_cases e : j = d.length
    · subst e; simp
    · rw [if_neg e]
      by_cases hl : j.toNat < d.length
      · rw [List.getElem?_append_left hl]
      · rw [List.getElem?_append_right (by omega), List.getElem?_eq_none (l := d) (by omega), List.getElem?_eq_none (by simp; omega)]
  · rw [if_neg h0, if_neg h0, if_neg (by omega)]

/-- A node more. -/
theorem Rep.add (h : Rep R w a d room us lk up) (k : Keeps (fun x => x = a ∨ x = R.b) w w') {n : Nd} (hn : n.kind ≠ 0) {us' : Int} (g : Nat) (dv : Value) {lk' up' : Int}
    (h0 : w'.cell? ⟨a, 0, none⟩ = some (.map (some R.b))) (h1 : w'.cell? ⟨a, 1, none⟩ = some (.int .i64 ((d.length : Int) + 1))) (h2 : w'.cell? ⟨a, 2, none⟩ = some (.int .i64 us')) (h3 : w'.cell? ⟨a, 3, none⟩ = some (.int .i64 room))
    (hfz : ∀ j, w'.frozen? ⟨a, j, none⟩ = false) (hm : IMap w' R.b (R.kv ++ [((d.length : Int), .pointer (some ⟨g, 0, none⟩))])) (hg : w.heap.size ≤ g) (hd : ∀ x, dv.ownBlock = some x → w.heap.size ≤ x ∧ x ≠ g)
    (hN : NodeAt w' g dv (.slice none 0 0) n lk' up') :
    ∃ R', Rep R' w' a (d ++ [n]) room us' (setAt lk d.length lk') (setAt up d.length up') ∧ Turn R w R' w' := by
  have hab : ¬ a = R.b := fun e => by have := h.tagB; rw [← e, h.tagA] at this; cases this
  have hno : ¬ has d d.length := fun hh => by have := has_range hh; omega
  have hh : ∀ j, has (d ++ [n]) j ↔ j = d.length ∨ has d j := fun j => by
    unfold has
    rw [nd_append]
    split
    · next e => subst e; exact ⟨fun _ => .inl rfl, fun _ => hn⟩
    · next e => exact ⟨.inr, fun h => h.resolve_left e⟩
  have hcount : count (d ++ [n]) = count d + 1 := by
    unfold count
    rw [sumBy_append]
    have : here1 n = 1 := by unfold here1; rw [if_neg hn]
    rw [this]
  have hgl := hN.lt
  let T : Nat → Tag := fun x => if x = g then .node d.length else if dv.ownBlock = some x then .data d.length else R.tag x
  have hT : ∀ x, x < w.heap.size → T x = R.tag x := fun x hx => by
    show (if x = g then _ else _) = _
    rw [if_neg (by omega), if_neg (fun e => by have := (hd x e).1; omega)]
  have hdl : ∀ x, dv.ownBlock = some x → x < w'.heap.size := hN.own.lt
  refine ⟨⟨R.b, R.kv ++ [((d.length : Int), .pointer (some ⟨g, 0, none⟩))], setAt R.g d.length g, setAt R.dv d.length dv, setAt R.ev d.length (.slice none 0 0), T⟩,
    ⟨h0, ?_, h2, h3, hfz, (hT a h.alt).trans h.tagA, (hT _ h.map.lt).trans h.tagB, hm, fun j => ?_, ?_, fun j hj => ?_, fun j hj x hx => ?_, fun j hj x hx => ?_, fun j hj => ?_, fun x hx => ?_⟩, ⟨k.mono (fun x _ hx => ?_), hT⟩⟩
  · rw [List.length_append]; exact h1
  · show kvGet (R.kv ++ _) j = _
    simp only [hh, kvGet, List.find?_append]
    have hgj := h.get j
    unfold kvGet at hgj
    by_cases e : j = d.length
    · subst e
      rw [if_neg hno] at hgj
      rw [if_pos (.inl rfl), Option.map_eq_none_iff] at *
      rw [hgj]
      simp [setAt]
    · have e' : ¬ (d.length : Int) = j := fun h => e h.symm
      simp only [e, false_or, List.find?_cons, e', decide_false, List.find?_nil, Option.or_none, hgj, setAt, if_false]
  · show (R.kv ++ _).length = _
    rw [hcount, List.length_append, h.len]; rfl
  · show T (setAt R.g d.length g j) = _
    by_cases e : j = d.length
    · subst e; rw [setAt_same]; exact if_pos rfl
    · rw [setAt_other e]
      have hj := ((hh j).1 hj).resolve_left e
      exact (hT _ (h.node j hj).lt).trans (h.tagN j hj)
  · show T x = _
    by_cases e : j = d.length
    · subst e
      have hx : dv.ownBlock = some x := by simpa only [setAt_same] using hx
      show (if x = g then _ else if dv.ownBlock = some x then _ else _) = _
      rw [if_neg (hd x hx).2, if_pos hx]
    · have hx : (R.dv j).ownBlock = some x := by simpa only [setAt_other e] using hx
      have hj := ((hh j).1 hj).resolve_left e
      exact (hT _ ((h.node j hj).own.lt x hx)).trans (h.tagD j hj x hx)
  · show T x = _
    by_cases e : j = d.length
    · subst e
      have hx : (Value.slice none 0 0).ownBlock = some x := by simpa only [setAt_same] using hx
      simp [Value.ownBlock] at hx
    · have hx : (R.ev j).ownBlock = some x := by simpa only [setAt_other e] using hx
      have hj := ((hh j).1 hj).resolve_left e
      exact (hT _ ((h.node j hj).dir.ownlt x hx)).trans (h.tagE j hj x hx)
  · rw [nd_append]
    by_cases e : j = d.length
    · subst e; simp only [setAt_same, if_true]; exact hN
    · simp only [setAt_other e, e, if_false]
      have hj := ((hh j).1 hj).resolve_left e
      refine (h.node j hj).keep k (fun hx => ?_) (fun x hx hx' => ?_) (fun x hx hx' => ?_)
      · have := h.tagN j hj; rcases hx with e | e <;> rw [e] at this
        · rw [h.tagA] at this; cases this
        · rw [h.tagB] at this; cases this
      · have := h.tagD j hj x hx; rcases hx' with e | e <;> rw [e] at this
        · rw [h.tagA] at this; cases this
        · rw [h.tagB] at this; cases this
      · have := h.tagE j hj x hx; rcases hx' with e | e <;> rw [e] at this
        · rw [h.tagA] at this; cases this
        · rw [h.tagB] at this; cases this
  · show (if x = g then _ else if dv.ownBlock = some x then _ else _) = _
    have hx : w'.heap.size ≤ x := hx
    have := k.size
    rw [if_neg (by omega), if_neg (fun e => by have := hdl x e; omega)]
    exact h.top x (by omega)
  · rcases hx with rfl | rfl
    · exact h.fA
    · exact h.fB

/-- Tags when node i has got new blocks. -/
theorem Rep.tags (h : Rep R w a d room us lk up) (k : w.heap.size ≤ w'.heap.size) (t : Tag) : ∃ T : Nat → Tag, (∀ x, x < w.heap.size → T x = R.tag x) ∧ (∀ x, w'.heap.size ≤ x → T x = .none) ∧ ∀ x, w.heap.size ≤ x → x < w'.heap.size → T x = t := by
  refine ⟨fun x => if w.heap.size ≤ x ∧ x < w'.heap.size then t else R.tag x, fun x hx => if_neg (by omega), fun x hx => ?_, fun x h1 h2 => if_pos ⟨h1, h2⟩⟩
  show (if _ then _ else _) = _
  rw [if_neg (by omega)]
  exact h.top x (by omega)

/-- Another row of bytes. -/
theorem Rep.setData (h : Rep R w a d room us lk up) {i : Int} (hi : has d i) {w1 : World} {v : Value} {s : ByteArray} (k : Keeps (fun x => (R.dv i).ownBlock = some x) w w1) (ho : OwnB (fun _ => True) w1 v s)
    (hv : ∀ x, v.ownBlock = some x → (R.dv i).ownBlock = some x ∨ w.heap.size ≤ x) :
    ∃ R', Rep R' (w1.setCell ⟨R.g i, 4, none⟩ v) a (upd d i ((nd d i).setData s)) room us lk up ∧ Turn R w R' (w1.setCell ⟨R.g i, 4, none⟩ v) ∧ R'.g = R.g ∧ R'.b = R.b ∧ R'.dv i = v := by
  have hn := h.node i hi
  have hgd := h.dvne hi
  have hsz : (w1.setCell ⟨R.g i, 4, none⟩ v).heap.size = w1.heap.size := by simp [World.setCell]
  have hge : ∀ x, (R.ev i).ownBlock = some x → ¬ (R.dv i).ownBlock = some x := fun x h1 h2 => by
    have := h.tagD i hi x h2; rw [h.tagE i hi x h1] at this; cases this
  have hgv : ¬ v.ownBlock = some (R.g i) := fun e => by
    rcases hv _ e with h1 | h1
    · exact hgd h1
    · have := hn.lt; omega
  have hev : ∀ x, (R.ev i).ownBlock = some x → ¬ v.ownBlock = some x := fun x h1 h2 => by
    rcases hv x h2 with h3 | h3
    · exact hge x h1 h3
    · have := hn.dir.ownlt x h1; omega
  have k2 := keeps_set w1 ⟨R.g i, 4, none⟩ v
  have kk : Keeps (R.N i) w (w1.setCell ⟨R.g i, 4, none⟩ v) := Keeps.setCell (k.mono (fun x _ hx => .inr (.inl (h.tagD i hi x hx)))) (.inl (h.nN hi)) v
  have hc : ∀ j, w1.cell? ⟨R.g i, j, none⟩ = w.cell? ⟨R.g i, j, none⟩ := fun j => k.cell (p := ⟨R.g i, j, none⟩) hn.lt hgd
  have hf : ∀ j, w1.frozen? ⟨R.g i, j, none⟩ = w.frozen? ⟨R.g i, j, none⟩ := fun j => k.frozen (p := ⟨R.g i, j, none⟩) hn.lt hgd
  have hset : ∀ (j : Nat) (u : Value), j ≠ 4 → w.cell? ⟨R.g i, j, none⟩ = some u → (w1.setCell ⟨R.g i, 4, none⟩ v).cell? ⟨R.g i, j, none⟩ = some u := fun j u hj hu => by
    rw [cell_set ((hc j).trans hu), if_neg hj]
  have hap := hn.dir.apart
  have hN : NodeAt (w1.setCell ⟨R.g i, 4, none⟩ v) (R.g i) v (R.ev i) ((nd d i).setData s) (lk i) (up i) := by
    refine ⟨hset 0 _ (by decide) hn.kind, hset 1 _ (by decide) hn.mode, hset 2 _ (by decide) hn.links, hset 3 _ (by decide) hn.holds, ?_, ?_, ⟨hset 5 _ (by decide) hn.dir.cell, ?_, rfl, ?_, hn.dir.rising, hn.dir.names, hap⟩, hset 6 _ (by decide) hn.up, fun j => ?_⟩
    · rw [cell_set ((hc 4).trans hn.data), if_pos rfl]
    · exact ho.keep k2 (fun x hx e => by simp only at e; subst e; exact hgv hx)
    · exact (frozen_set _ _ _ _).trans ((hf 5).trans (hn.fz 5))
    · exact (hn.dir.own.keep k hge).keep k2 (fun x hx e => by simp only at e; subst e; exact hap hx)
    · exact (frozen_set _ _ _ _).trans ((hf j).trans (hn.fz j))
  obtain ⟨T, hT, hT', hTn⟩ := h.tags kk.size (.data i)
  have hR := h.turn hi kk v (R.ev i) T hT hT' (fun x hx => ?_) (fun x hx => (hT x (hn.dir.ownlt x hx)).trans (h.tagE i hi x hx)) (n := (nd d i).setData s) hi hN
  · simp only [setAt_self] at hR
    exact ⟨_, hR, ⟨kk.mono (fun x _ hx => hx.F), hT⟩, rfl, rfl, setAt_same _ _ _⟩
  · rcases hv x hx with h1 | h1
    · exact (hT x (hn.own.lt x h1)).trans (h.tagD i hi x h1)
    · exact hTn x h1 (by rw [hsz]; exact ho.lt x hx)

/-- The bytes of the row, turned in place. -/
theorem Rep.overData (h : Rep R w a d room us lk up) {i : Int} (hi : has d i) {s : ByteArray} (k : Keeps (fun x => (R.dv i).ownBlock = some x) w w') (ho : OwnB (fun _ => True) w' (R.dv i) s) :
    Rep R w' a (upd d i ((nd d i).setData s)) room us lk up := by
  have hn := h.node i hi
  have hgd := h.dvne hi
  have hge : ∀ x, (R.ev i).ownBlock = some x → ¬ (R.dv i).ownBlock = some x := fun x h1 h2 => by
    have := h.tagD i hi x h2; rw [h.tagE i hi x h1] at this; cases this
  have hc : ∀ j, w'.cell? ⟨R.g i, j, none⟩ = w.cell? ⟨R.g i, j, none⟩ := fun j => k.cell (p := ⟨R.g i, j, none⟩) hn.lt hgd
  have hf : ∀ j, w'.frozen? ⟨R.g i, j, none⟩ = w.frozen? ⟨R.g i, j, none⟩ := fun j => k.frozen (p := ⟨R.g i, j, none⟩) hn.lt hgd
  have hN : NodeAt w' (R.g i) (R.dv i) (R.ev i) ((nd d i).setData s) (lk i) (up i) :=
    ⟨(hc 0).trans hn.kind, (hc 1).trans hn.mode, (hc 2).trans hn.links, (hc 3).trans hn.holds, (hc 4).trans hn.data, ho, hn.dir.keep k hgd hge, (hc 6).trans hn.up, fun j => (hf j).trans (hn.fz j)⟩
  have hR := h.turn hi (k.mono (fun x _ hx => .inr (.inl (h.tagD i hi x hx)))) (R.dv i) (R.ev i) R.tag (fun _ _ => rfl) (fun x hx => h.top x (Nat.le_trans k.size hx)) (h.tagD i hi) (h.tagE i hi) (n := (nd d i).setData s) hi hN
  rwa [setAt_self, setAt_self, setAt_self, setAt_self] at hR

/-- Other entries. -/
theorem Rep.setDir (h : Rep R w a d room us lk up) {i : Int} (hi : has d i) {es : List Ent} (hd : DTo w w' ⟨R.g i, 5, none⟩ (R.ev i) es) :
    ∃ R', Rep R' w' a (upd d i ((nd d i).setEnts es)) room us lk up ∧ Turn R w R' w' ∧ R'.g = R.g ∧ R'.b = R.b := by
  obtain ⟨v, hI, k, hv⟩ := hd
  have hn := h.node i hi
  have hgd := h.dvne hi
  have hap := hn.dir.apart
  have hsz : (w.setCell ⟨R.g i, 5, none⟩ v).heap.size = w.heap.size := by simp [World.setCell]
  have hde : ∀ x, (R.dv i).ownBlock = some x → ¬ (R.ev i).ownBlock = some x := fun x h1 h2 => by
    have := h.tagE i hi x h2; rw [h.tagD i hi x h1] at this; cases this
  have hap' : ¬ (R.ev i).ownBlock = some (R.g i) := hap
  have k0 := keeps_set w ⟨R.g i, 5, none⟩ v
  have hlt := hn.lt
  have hc : ∀ (j : Nat) (u : Value), j ≠ 5 → w.cell? ⟨R.g i, j, none⟩ = some u → w'.cell? ⟨R.g i, j, none⟩ = some u := fun j u hj hu => by
    rw [k.cell (p := ⟨R.g i, j, none⟩) (by rw [hsz]; exact hlt) hap', cell_set hu, if_neg hj]
  have hf : ∀ j, w'.frozen? ⟨R.g i, j, none⟩ = w.frozen? ⟨R.g i, j, none⟩ := fun j => (k.frozen (p := ⟨R.g i, j, none⟩) (by rw [hsz]; exact hlt) hap').trans (frozen_set _ _ _ _)
  have kk : Keeps (R.N i) w w' := (Keeps.setCell (p := ⟨R.g i, 5, none⟩) (Keeps.refl (R.N i) w) (.inl (h.nN hi)) v).step k (fun x hx => .inl (.inr (.inr (h.tagE i hi x hx))))
  have hN : NodeAt w' (R.g i) (R.dv i) v ((nd d i).setEnts es) (lk i) (up i) :=
    ⟨hc 0 _ (by decide) hn.kind, hc 1 _ (by decide) hn.mode, hc 2 _ (by decide) hn.links, hc 3 _ (by decide) hn.holds, hc 4 _ (by decide) hn.data,
      (hn.own.keep k0 (fun x hx e => by simp only at e; subst e; exact hgd hx)).keep k hde, hI, hc 6 _ (by decide) hn.up, fun j => (hf j).trans (hn.fz j)⟩
  obtain ⟨T, hT, hT', hTn⟩ := h.tags kk.size (.dir i)
  have hR := h.turn hi kk (R.dv i) v T hT hT' (fun x hx => (hT x (hn.own.lt x hx)).trans (h.tagD i hi x hx)) (fun x hx => ?_) (n := (nd d i).setEnts es) hi hN
  · simp only [setAt_self] at hR
    exact ⟨_, hR, ⟨kk.mono (fun x _ hx => hx.F), hT⟩, rfl, rfl⟩
  · rcases hv x hx with h1 | h1
    · exact (hT x (hn.dir.ownlt x h1)).trans (h.tagE i hi x h1)
    · exact hTn x h1 (hI.ownlt x hx)

/-- What m[k] finds. -/
def nodeV (R : RD) (d : Nds) (i : Int) : Value := if has d i then .pointer (some ⟨R.g i, 0, none⟩) else .pointer none

theorem Rep.look (h : Rep R w a d room us lk up) (i : Int) : (Instr.lookup 68 (.map (some R.b)) (.int .i64 i) false).run Try.prog w = .ok (nodeV R d i) w := by
  have hz : (zeroValue 71).run Try.prog w = .ok (.pointer none) w := by kernel_rfl
  have := h.map.lookup (P := Try.prog) Try.underlying68 Try.underlying3 hz i
  rw [this, h.get i]
  unfold nodeV
  split <;> rfl

end

end Go.Proofs.Ytbcejodnjeklpaa
