/-
  Disks at rest: a node more; other entries of a directory. The pure part.
-/
import Derived.Test.YtbcejodnjeklpaaDiskW5
import Derived.Test.YtbcejodnjeklpaaEntM
namespace Go.Proofs.Ytbcejodnjeklpaa
open Go.RowKit

section
variable {d : Nds} {i : Int} {n : Nd}

theorem cnt_none (h : DInv d) {j : Int} (hj : ¬ has d j) : cnt d j = 0 := by
  rcases Nat.eq_zero_or_pos (cnt d j) with h0 | h0
  · exact h0
  · obtain ⟨k, e, he, hi⟩ := cnt_pos.1 h0
    have := (h.tgt k e he).1
    rw [hi] at this
    exact absurd this hj

theorem has_append (hn : n.kind ≠ 0) (j : Int) : has (d ++ [n]) j ↔ j = d.length ∨ has d j := by
  unfold has
  rw [nd_append]
  split
  · next e => subst e; exact ⟨fun _ => .inl rfl, fun _ => hn⟩
  · next e => exact ⟨.inr, fun h => h.resolve_left e⟩

theorem not_has_length (d : Nds) : ¬ has d d.length := fun h => by have := has_range h; omega

theorem links_append (he : n.ents = []) (j : Int) : links (d ++ [n]) j = links d j := by
  unfold links cnt
  rw [sumBy_append]
  have : namesOf j n = 0 := by unfold namesOf; rw [he]; rfl
  omega

theorem par_append (h : DInv d) (he : n.ents = []) (j k : Int) : Par (d ++ [n]) j k ↔ Par d j k := by
  unfold Par
  rw [nd_append, nd_append]
  constructor
  · rintro ⟨h1, e, h2, h3⟩
    split at h2
    · rw [he] at h2; cases h2
    · have := (h.tgt j e h2).1
      rw [h3] at this
      rw [if_neg (fun hk => by subst hk; exact not_has_length d this)] at h1
      exact ⟨h1, e, h2, h3⟩
  · rintro ⟨h1, e, h2, h3⟩
    have hk : k ≠ d.length := fun hk => by
      have : has d k := by unfold has; rw [h1]; decide
      subst hk; exact not_has_length d this
    have hj : j ≠ d.length := fun hj => by
      subst hj
      rw [nd_gone (by omega)] at h2; cases h2
    rw [if_neg hk, if_neg hj]
    exact ⟨h1, e, h2, h3⟩

theorem DInv.add (h : DInv d) (hn : n.kind ≠ 0) (hok : NdOk n) (he : n.ents = []) : DInv (d ++ [n]) := by
  have h2 := h.two
  refine ⟨by rw [List.length_append]; omega, ?_, ?_, fun j => ?_, fun j e hj => ?_, fun j hj => ?_, fun j => ?_⟩
  · rw [nd_append, if_neg (by omega)]; exact h.zero
  · rw [nd_append, if_neg (by omega)]; exact h.root
  · rw [nd_append]; split
    · exact hok
    · exact h.node j
  · rw [nd_append] at hj
    split at hj
    · rw [he] at hj; cases hj
    · exact ⟨(has_append hn _).2 (.inr (h.tgt j e hj).1), (h.tgt j e hj).2⟩
  · rw [links_append he]
    rw [nd_append] at hj
    split at hj
    · next e =>
      subst e
      have := cnt_none h (not_has_length d)
      unfold links
      split <;> omega
    · exact h.single j hj
  · have := h.acyc j
    induction this with
    | intro j _ ih => exact ⟨j, fun k hk' => ih k ((par_append h he k j).1 hk')⟩

theorem noGarb_append (h : NoGarb d) (he : n.ents = []) (hh : n.holds ≠ 0) : NoGarb (d ++ [n]) := by
  intro j ⟨h1, h2, h3⟩
  rw [links_append he] at h2
  unfold has at h1
  rw [nd_append] at h1 h3
  split at h1
  · next e => rw [if_pos e] at h3; exact hh h3
  · next e => rw [if_neg e] at h3; exact h j ⟨h1, h2, h3⟩

theorem IsDisk.add {R R' : RD} {w w' : World} {a : Nat} {room : Int} {lk up : Int → Int} (hC : Casc R w a d room lk up zp) (hcl : NoGarb d) (hn : n.kind ≠ 0) (hok : NdOk n) (he : n.ents = []) (hh : n.holds ≠ 0)
    (rep : Rep R' w' a (d ++ [n]) room (used (d ++ [n])) (setAt lk d.length 0) (setAt up d.length 0)) (hs : smallD (d ++ [n])) (hf : (used (d ++ [n]) : Int) ≤ room) (hm : room ≤ 9223372036854775807) : IsDisk R' w' a (d ++ [n]) room := by
  refine ⟨⟨_, _, rep, hC.inv.add hn hok he, fun j hj => ?_, fun j hj => absurd hj (by unfold zp; omega), fun j hj => ?_, hs, fun j hj => ?_⟩, noGarb_append hcl he hh, hf, hm⟩
  · rw [links_append he]
    rcases (has_append hn j).1 hj with e | e
    · subst e
      rw [setAt_same]
      have := cnt_none hC.inv (not_has_length d)
      have h2 := hC.inv.two
      unfold links zp
      rw [if_neg (by omega), this]; rfl
    · have hne : j ≠ d.length := fun e1 => by subst e1; exact not_has_length d e
      rw [setAt_other hne]
      exact hC.cnt j e
  · rcases (has_append hn j).1 hj with e | e
    · subst e
      rw [setAt_same, setAt_same]
      have h2 := hC.inv.two
      refine ⟨fun k hk => ?_, fun e => by omega, fun _ => rfl⟩
      have hk := (par_append hC.inv he k _).1 hk
      have := hk.links
      have := cnt_none hC.inv (not_has_length d)
      unfold links at *
      rw [if_neg (by omega)] at *
      omega
    · have hne : j ≠ d.length := fun e1 => by subst e1; exact not_has_length d e
      rw [setAt_other hne, setAt_other hne]
      obtain ⟨h1, h2, h3⟩ := hC.upok j e
      exact ⟨fun k hk => h1 k ((par_append hC.inv he k j).1 hk), h2, h3⟩
  · rcases (has_append hn j).1 hj with e | e
    · subst e; rw [setAt_same]; decide
    · have hne : j ≠ d.length := fun e1 => by subst e1; exact not_has_length d e
      rw [setAt_other hne]; exact hC.lkb j e

theorem used_append (d : Nds) (n : Nd) : used (d ++ [n]) = used d + room1 n := sumBy_append _ _ _
theorem mass_append (d : Nds) (n : Nd) : mass (d ++ [n]) = mass d + mass1 n := sumBy_append _ _ _

/-- k, or one below it. -/
inductive AboveR (P : Int → Int → Prop) (k : Int) : Int → Prop
  | self : AboveR P k k
  | step {j i : Int} : P j i → AboveR P k j → AboveR P k i

abbrev Above (d : Nds) : Int → Int → Prop := AboveR (Par d)

theorem acc_reparent {P P' : Int → Int → Prop} {k t : Int} (hP : ∀ j i, P' j i → (i ≠ k ∧ P j i) ∨ (i = k ∧ j = t)) (hacc : ∀ i, Acc P i) (hno : ¬ AboveR P k t) : ∀ i, Acc P' i := by
  have hA : ∀ i, Acc P i → ¬ AboveR P k i → Acc P' i := fun i h => by
    induction h with
    | intro i _ ih =>
      intro hn
      refine ⟨i, fun j hj => ?_⟩
      rcases hP j i hj with ⟨h1, h2⟩ | ⟨h1, _⟩
      · exact ih j h2 (fun ha => hn (.step h2 ha))
      · subst h1; exact absurd .self hn
  have ht := hA t (hacc t) hno
  intro i
  have := hacc i
  induction this with
  | intro i _ ih =>
    refine ⟨i, fun j hj => ?_⟩
    rcases hP j i hj with ⟨_, h2⟩ | ⟨h1, h2⟩
    · exact ih j h2
    · subst h2; exact ht

/-- A directory with other entries. -/
def setE (d : Nds) (i : Int) (es : List Ent) : Nds := upd d i ((nd d i).setEnts es)
/-- How many of the entries name a node. -/
def nms (j : Int) (es : List Ent) : Nat := es.countP fun e => decide (e.2 = j)

theorem nms_perm {l m : List Ent} (h : l.Perm m) (j : Int) : nms j l = nms j m := h.countP_eq _
theorem nms_cons (x : Ent) (l : List Ent) (j : Int) : nms j (x :: l) = nms j l + if x.2 = j then 1 else 0 := by
  unfold nms
  rw [List.countP_cons]
  simp
theorem nms_pos {j : Int} {l : List Ent} : 0 < nms j l ↔ ∃ e ∈ l, e.2 = j := by simp [nms, List.countP_pos_iff]

theorem nms_put {es : List Ent} {name : ByteArray} {k : Int} (h : entHas es name = false) (j : Int) : nms j (entPut es name k) = nms j es + if k = j then 1 else 0 := by
  rw [nms_perm (entPut_perm h), nms_cons]
theorem nms_del {es : List Ent} (hr : Rising es) {name : ByteArray} {k : Int} (h : entGet es name = some k) (j : Int) : nms j es = nms j (entDel es name) + if k = j then 1 else 0 := by
  rw [nms_perm (entDel_perm hr h), nms_cons]
theorem nms_set {es : List Ent} (hr : Rising es) {name : ByteArray} {k : Int} (n : Int) (h : entGet es name = some k) (j : Int) : nms j (entSet es name n) + (if k = j then 1 else 0) = nms j es + if n = j then 1 else 0 := by
  rw [nms_perm (entSet_perm hr n h), nms_cons, nms_del hr h]
  dsimp only
  omega
theorem entSize_cons (x : Ent) (l : List Ent) : entSize (x :: l) = entSize l + x.1.size := by simp [entSize]; omega
theorem entSize_put {es : List Ent} {name : ByteArray} {k : Int} (h : entHas es name = false) : entSize (entPut es name k) = entSize es + name.size := by
  rw [entSize_perm (entPut_perm h), entSize_cons]
theorem entSize_del {es : List Ent} (hr : Rising es) {name : ByteArray} {k : Int} (h : entGet es name = some k) : entSize es = entSize (entDel es name) + name.size := by
  rw [entSize_perm (entDel_perm hr h), entSize_cons]
theorem entSize_set {es : List Ent} (hr : Rising es) {name : ByteArray} {k : Int} (n : Int) (h : entGet es name = some k) : entSize (entSet es name n) = entSize es := by
  rw [entSize_perm (entSet_perm hr n h), entSize_cons, entSize_del hr h]
theorem len_put {es : List Ent} {name : ByteArray} {k : Int} (h : entHas es name = false) : (entPut es name k).length = es.length + 1 := by
  rw [(entPut_perm h).length_eq]; rfl
theorem len_del {es : List Ent} (hr : Rising es) {name : ByteArray} {k : Int} (h : entGet es name = some k) : es.length = (entDel es name).length + 1 := by
  rw [(entDel_perm hr h).length_eq]; rfl
theorem len_set (es : List Ent) (name : ByteArray) (n : Int) : (entSet es name n).length = es.length := by unfold entSet; simp

theorem nd_setE (hi : has d i) (es : List Ent) (j : Int) : nd (setE d i es) j = if j = i then (nd d i).setEnts es else nd d j := nd_upd (has_range hi).1 (has_range hi).2 _ _
theorem kind_setE (hi : has d i) (es : List Ent) (j : Int) : (nd (setE d i es) j).kind = (nd d j).kind := by
  rw [nd_setE hi]
  split
  · next e => subst e; rfl
  · rfl
theorem holds_setE (hi : has d i) (es : List Ent) (j : Int) : (nd (setE d i es) j).holds = (nd d j).holds := by
  rw [nd_setE hi]
  split
  · next e => subst e; rfl
  · rfl
theorem ents_setE (hi : has d i) (es : List Ent) (j : Int) : (nd (setE d i es) j).ents = if j = i then es else (nd d j).ents := by
  rw [nd_setE hi]
  split <;> rfl
theorem has_setE (hi : has d i) (es : List Ent) (j : Int) : has (setE d i es) j ↔ has d j := has_upd (n := (nd d i).setEnts es) hi hi j
theorem links_setE (hi : has d i) (es : List Ent) (j : Int) : links (setE d i es) j + nms j (nd d i).ents = links d j + nms j es := links_upd (n := (nd d i).setEnts es) hi j
theorem used_setE (hi : has d i) (es : List Ent) : used (setE d i es) + entSize (nd d i).ents = used d + entSize es := by
  have := used_upd (n := (nd d i).setEnts es) hi
  unfold room1 at this
  simp only [Nd.setEnts] at this
  unfold setE
  simp only [Nd.setEnts]
  omega
theorem mass_setE (hi : has d i) (es : List Ent) : mass (setE d i es) + (nd d i).ents.length = mass d + es.length := by
  have := mass_upd (n := (nd d i).setEnts es) hi
  unfold mass1 at this
  simp only [Nd.setEnts] at this
  unfold setE
  simp only [Nd.setEnts]
  omega

theorem Nds.ext {d d' : Nds} (hl : d.length = d'.length) (h : ∀ j, nd d j = nd d' j) : d = d' := by
  apply List.ext_getElem?
  intro j
  by_cases hj : j < d.length
  · have h1 := nd_get (d := d) (i := j) (by omega) (by omega)
    have h2 := nd_get (d := d') (i := j) (by omega) (by omega)
    simp only [Int.toNat_natCast] at h1 h2
    rw [h1, h2, h]
  · rw [List.getElem?_eq_none (by omega), List.getElem?_eq_none (by omega)]

theorem length_setE (d : Nds) (i : Int) (es : List Ent) : (setE d i es).length = d.length := upd_length _ _ _

theorem setE_setE (hi : has d i) (es es' : List Ent) : setE (setE d i es) i es' = setE d i es' := by
  refine Nds.ext (by simp only [length_setE]) fun j => ?_
  rw [nd_setE ((has_setE hi es i).2 hi), nd_setE hi, nd_setE hi, nd_setE hi]
  by_cases e : j = i
  · rw [if_pos e, if_pos e, if_pos rfl]; rfl
  · rw [if_neg e, if_neg e, if_neg e]

theorem setE_self (hi : has d i) : setE d i (nd d i).ents = d := by
  refine Nds.ext (by simp only [length_setE]) fun j => ?_
  rw [nd_setE hi]
  split
  · next e => subst e; rfl
  · rfl

/-- Nodes that keep all but their entries. -/
theorem DInv.turned (h : DInv d) {d' : Nds} (hl : d'.length = d.length) (hnd : ∀ j, ∃ es, nd d' j = (nd d j).setEnts es ∧ Rising es ∧ (∀ e ∈ es, okName e.1 = true ∧ has d e.2 ∧ e.2 ≠ 1) ∧ ((nd d j).kind ≠ 2 → es = []))
    (hsg : ∀ j, (nd d j).kind = 2 → links d' j ≤ 1) (hac : ∀ j, Acc (Par d') j) : DInv d' := by
  have hkind : ∀ j, (nd d' j).kind = (nd d j).kind := fun j => by
    obtain ⟨es, h1, _⟩ := hnd j
    rw [h1]; rfl
  refine ⟨by rw [hl]; exact h.two, ?_, ?_, fun j => ?_, fun j e hj => ?_, fun j hj => ?_, hac⟩
  · obtain ⟨es, h1, _, _, h4⟩ := hnd 0
    rw [h.zero] at h1 h4
    have := h4 (by decide)
    subst this
    rw [h1]; rfl
  · rw [hkind]; exact h.root
  · obtain ⟨es, h1, h2, h3, h4⟩ := hnd j
    rw [h1]
    have hok := h.node j
    refine ⟨hok.kind0, hok.kind3, fun e => ?_, hok.mode0, hok.mode1, hok.holds, hok.data, hok.dirs, h4, h2, fun e he => (h3 e he).1⟩
    have e0 : (nd d j).kind = 0 := e
    have h5 := hok.gone e0
    have h6 := h4 (by rw [e0]; decide)
    rw [h5, h6]; rfl
  · obtain ⟨es, h1, h2, h3, h4⟩ := hnd j
    rw [h1] at hj
    have := h3 e hj
    refine ⟨?_, this.2.2⟩
    unfold has
    rw [hkind]
    exact this.2.1
  · rw [hkind] at hj; exact hsg j hj

/-- Entries of a directory turned. -/
theorem DInv.ents (h : DInv d) (hi : (nd d i).kind = 2) {es : List Ent} (hr : Rising es) (hnm : ∀ e ∈ es, okName e.1 = true) (htg : ∀ e ∈ es, has d e.2 ∧ e.2 ≠ 1)
    (hsg : ∀ j, (nd d j).kind = 2 → links (setE d i es) j ≤ 1) (hac : ∀ j, Acc (Par (setE d i es)) j) : DInv (setE d i es) := by
  have hh : has d i := by unfold has; rw [hi]; decide
  refine h.turned (length_setE d i es) (fun j => ?_) hsg hac
  rw [nd_setE hh]
  split
  · next e => subst e; exact ⟨es, rfl, hr, fun e he => ⟨hnm e he, htg e he⟩, fun h => absurd hi h⟩
  · exact ⟨(nd d j).ents, rfl, (h.node j).rising, fun e he => ⟨(h.node j).names e he, h.tgt j e he⟩, (h.node j).flat⟩

end

end Go.Proofs.Ytbcejodnjeklpaa
