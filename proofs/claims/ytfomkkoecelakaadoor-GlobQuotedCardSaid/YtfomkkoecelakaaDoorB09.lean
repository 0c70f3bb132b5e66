/-
  Disks at rest: a node more; other entries of a directory. The pure part.
-/
import Derived.Test.YtfomkkoecelakaaDoorB08
import Derived.Test.YtfomkkoecelakaaDoorB03

set_option linter.unusedSimpArgs false
set_option linter.unusedVariables false

set_option maxRecDepth 100000
namespace Go.Proofs.YtfomkkoecelakaaDoor
open Go.RowKit

section
variable {d : Nds} {i : Int} {n : Nd}

theorem cnt_none (h : DInv d) {j : Int} (hj : ¬ has d j) : cnt d j = 0 := by
  rcases Nat.eq_zero_or_pos (cnt d j) with h0 | h0
  · exact h0
  · obtain ⟨k, e, he, hi⟩ := cnt_pos.1 h0
    have := (h.tgt k e he).1
    rw [hi] at this
    exact absurd this hj

theorem has_append (hn : n.kind ≠ 0) (j : Int) : has (d ++ [n]) j ↔ j = d.length ∨ has d j := by
  unfold has
  rw [nd_append]
  split
  · next e => subst e; exact ⟨fun _ => .inl rfl, fun _ => hn⟩
  · next e => exact ⟨.inr, fun h => h.resolve_left e⟩

theorem not_has_length (d : Nds) : ¬ has d d.length := fun h => by have := has_range h; omega

theorem links_append (he : n.ents = []) (j : Int) : links (d ++ [n]) j = links d j := by
  unfold links cnt
  rw [sumBy_append]
  have : namesOf j n = 0 := by unfold namesOf; rw [he]; rfl
  omega

theorem par_append (h : DInv d) (he : n.ents = []) (j k : Int) : Par (d ++ [n]) j k ↔ Par d j k := by
  unfold Par
  rw [nd_append, nd_append]
  constructor
  · rintro ⟨h1, e, h2, h3⟩
    split at h2
    · rw [he] at h2; cases h2
    · have := (h.tgt j e h2).1
      rw [h3] at this
      rw [if_neg (fun hk => by subst hk; exact not_has_length d this)] at h1
      exact ⟨h1, e, h2, h3⟩
  · rintro ⟨h1, e, h2, h3⟩
    have hk : k ≠ d.length := fun hk => by
      have : has d k := by unfold has; rw [h1]; decide
      subst hk; exact not_has_length d this
    have hj : j ≠ d.length := fun hj => by
      subst hj
      rw [nd_gone (by omega)] at h2; cases h2
    rw [if_neg hk, if_neg hj]
    exact ⟨h1, e, h2, h3⟩

theorem DInv.add (h : DInv d) (hn : n.kind ≠ 0) (hok : NdOk n) (he : n.ents = []) : DInv (d ++ [n]) := by
  have h2 := h.two
  refine ⟨by rw [List.length_append]; omega, ?_, ?_, fun j => ?_, fun j e hj => ?_, fun j hj => ?_, fun j => ?_⟩
  · rw [nd_append, if_neg (by omega)]; exact h.zero
  · rw [nd_append, if_neg (by omega)]; exact h.root
  · rw [nd_append]; split
    · exact hok
    · exact h.node j
  · rw [nd_append] at hj
    split at hj
    · rw [he] at hj; cases hj
    · exact ⟨(has_append hn _).2 (.inr (h.tgt j e hj).1), (h.tgt j e hj).2⟩
  · rw [links_append he]
    rw [nd_append] at hj
    split at hj
    · next e =>
      subst e
      have := cnt_none h (not_has_length d)
      unfold links
      split <;> omega
    · exact h.single j hj
  · have := h.acyc j
    induction this with
    | intro j _ ih => exact ⟨j, fun k hk' => ih k ((par_append h he k j).1 hk')⟩

theorem noGarb_append (h : NoGarb d) (he : n.ents = []) (hh : n.holds ≠ 0) : NoGarb (d ++ [n]) := by
  intro j ⟨h1, h2, h3⟩
  rw [links_append he] at h2
  unfold has at h1
  rw [nd_append] at h1 h3
  split at h1
  · next e => rw [if_pos e] at h3; exact hh h3
  · next e => rw [if_neg e] at h3; exact h j ⟨h1, h2, h3⟩

theorem IsDisk.add {R R' : RD} {w w' : World} {a : Nat} {room : Int} {lk up : Int → Int} (hC : Casc R w a d room lk up zp) (hcl : NoGarb d) (hn : n.kind ≠ 0) (hok : NdOk n) (he : n.ents = []) (hh : n.holds ≠ 0)
    (rep : Rep R' w' a (d ++ [n]) room (used (d ++ [n])) (setAt lk d.length 0) (setAt up d.length 0)) (hs : smallD (d ++ [n])) (hf : (used (d ++ [n]) : Int) ≤ room) (hm : room ≤ 9223372036854775807) : IsDisk R' w' a (d ++ [n]) room := by
  refine ⟨⟨_, _, rep, hC.inv.add hn hok he, fun j hj => ?_, fun j hj => absurd hj (by unfold zp; omega), fun j hj => ?_, hs, fun j hj => ?_⟩, noGarb_append hcl he hh, hf, hm⟩
  · rw [links_append he]
    rcases (has_append hn j).1 hj with e | e
    · subst e
      rw [setAt_same]
      have := cnt_none hC.inv (not_has_length d)
      have h2 := hC.inv.two
      unfold links zp
      rw [if_neg (by omega), this]; rfl
    · have hne : j ≠ d.length := fun e1 => by subst e1; exact not_has_length d e
      rw [setAt_other hne]
      exact hC.cnt j e
  · rcases (has_append hn j).1 hj with e | e
    · subst e
      rw [setAt_same, setAt_same]
      have h2 := hC.inv.two
      refine ⟨fun k hk => ?_, fun e => by omega, fun _ => rfl⟩
      have hk := (par_append hC.inv he k _).1 hk
      have := hk.links
      have := cnt_none hC.inv (not_has_length d)
      unfold links at *
      rw [if_neg (by omega)] at *
      omega
    · have hne : j ≠ d.length := fun e1 => by subst e1; exact not_has_length d e
      rw [setAt_other hne, setAt_other hne]
      obtain ⟨h1, h2, h3⟩ := hC.upok j e
      exact ⟨fun k hk => h1 k ((par_append hC.inv he k j).1 hk), h2, h3⟩
  · rcases (has_append hn j).1 hj with e | e
    · subst e; rw [setAt_same]; decide
    · have hne : j ≠ d.length := fun e1 => by subst e1; exact not_has_length d e
      rw [setAt_other hne]; exact hC.lkb j e

theorem used_append (d : Nds) (n : Nd) : used (d ++ [n]) = used d + room1 n := sumBy_append _ _ _
theorem mass_append (d : Nds) (n : Nd) : mass (d ++ [n]) = mass d + mass1 n := sumBy_append _ _ _

/-- k, or one below it. -/
inductive AboveR (P : Int → Int → Prop) (k : Int) : Int → Prop
  | self : AboveR P k k
  | step {j i : Int} : P j i → AboveR P k j → AboveR P k i

abbrev Above (d : Nds) : Int → Int → Prop := AboveR (Par d)

theorem acc_reparent {P P' : Int → Int → Prop} {k t : Int} (hP : ∀ j i, P' j i → (i ≠ k ∧ P j i) ∨ (i = k ∧ j = t)) (hacc : ∀ i, Acc P i) (hno : ¬ AboveR P k t) : ∀ i, Acc P' i := by
  have hA : ∀ i, Acc P i → ¬ AboveR P k i → Acc P' i := fun i h => by
    induction h with
    | intro i _ ih =>
      intro hn
      refine ⟨i, fun j hj => ?_⟩
      rcases hP j i hj with ⟨h1, h2⟩ | ⟨h1, _⟩
      · exact ih j h2 (fun ha => hn (.step h2 ha))
      · subst h1; exact absurd .self hn
  have ht := hA t (hacc t) hno
  intro i
  have := hacc i
  induction this with
  | intro i _ ih =>
    refine ⟨i, fun j hj => ?_⟩
    rcases hP j i hj with ⟨_, h2⟩ | ⟨h1, h2⟩
    · exact ih j h2
    · subst h2; exact ht

/-- A directory with other entries. -/
def setE (d : Nds) (i : Int) (es : List Ent) : Nds := upd d i ((nd d i).setEnts es)
/-- How many of the entries name a node. -/
def nms (j : Int) (es : List Ent) : Nat := es.countP fun e => decide (e.2 = j)

theorem nms_perm {l m : List Ent} (h : l.Perm m) (j : Int) : nms j l = nms j m := h.countP_eq _
theorem nms_cons (x : Ent) (l : List Ent) (j : Int) : nms j (x :: l) = nms j l + if x.2 = j then 1 else 0 := by
  unfold nms
  rw [List.countP_cons]
  simp
theorem nms_pos {j : Int} {l : List Ent} : 0 < nms j l ↔ ∃ e ∈ l, e.2 = j := by simp [nms, List.countP_pos_iff]

theorem nms_put {es : List Ent} {name : ByteArray} {k : Int} (h : entHas es name = false) (j : Int) : nms j (entPut es name k) = nms j es + if k = j then 1 else 0 := by
  rw [nms_perm (entPut_perm h), nms_cons]
theorem nms_del {es : List Ent} (hr : Rising es) {name : ByteArray} {k : Int} (h : entGet es name = some k) (j : Int) : nms j es = nms j (entDel es name) + if k = j then 1 else 0 := by
  rw [nms_perm (entDel_perm hr h), nms_cons]
theorem nms_set {es : List Ent} (hr : Rising es) {name : ByteArray} {k : Int} (n : Int) (h : entGet es name = some k) (j : Int) : nms j (entSet es name n) + (if k = j then 1 else 0) = nms j es + if n = j then 1 else 0 := by
  rw [nms_perm (entSet_perm hr n h), nms_cons, nms_del hr h]
  dsimp only
  omega
theorem entSize_cons (x : Ent) (l : List Ent) : entSize (x :: l) = entSize l + x.1.size := by simp [entSize]; omega
theorem entSize_put {es : List Ent} {name : ByteArray} {k : Int} (h : entHas es name = false) : entSize (entPut es name k) = entSize es + name.size := by
  rw [entSize_perm (entPut_perm h), entSize_cons]
theorem entSize_del {es : List Ent} (hr : Rising es) {name : ByteArray} {k : Int} (h : entGet es name = some k) : entSize es = entSize (entDel es name) + name.size := by
  rw [entSize_perm (entDel_perm hr h), entSize_cons]
theorem entSize_set {es : List Ent} (hr : Rising es) {name : ByteArray} {k : Int} (n : Int) (h : entGet es name = some k) : entSize (entSet es name n) = entSize es := by
  rw [entSize_perm (entSet_perm hr n h), entSize_cons, entSize_del hr h]
theorem len_put {es : List Ent} {name : ByteArray} {k : Int} (h : entHas es name = false) : (entPut es name k).length = es.length + 1 := by
  rw [(entPut_perm h).length_eq]; rfl
theorem len_del {es : List Ent} (hr : Rising es) {name : ByteArray} {k : Int} (h : entGet es name = some k) : es.length = (entDel es name).length + 1 := by
  rw [(entDel_perm hr h).length_eq]; rfl
theorem len_set (es : List Ent) (name : ByteArray) (n : Int) : (entSet es name n).length = es.length := by unfold entSet; simp

theorem nd_setE (hi : has d i) (es : List Ent) (j : Int) : nd (setE d i es) j = if j = i then (nd d i).setEnts es else nd d j := nd_upd (has_range hi).1 (has_range hi).2 _ _
theorem kind_setE (hi : has d i) (es : List Ent) (j : Int) : (nd (setE d i es) j).kind = (nd d j).kind := by
  rw [nd_setE hi]
  split
  · next e => subst e; rfl
  · rfl
theorem holds_setE (hi : has d i) (es : List Ent) (j : Int) : (nd (setE d i es) j).holds = (nd d j).holds := by
  rw [nd_setE hi]
  split
  · next e => subst e; rfl
  · rfl
theorem ents_setE (hi : has d i) (es : List Ent) (j : Int) : (nd (setE d i es) j).ents = if j = i then es else (nd d j).ents := by
  rw [nd_setE hi]
  split <;> rfl
theorem has_setE (hi : has d i) (es : List Ent) (j : Int) : has (setE d i es) j ↔ has d j := has_upd (n := (nd d i).setEnts es) hi hi j
theorem links_setE (hi : has d i) (es : List Ent) (j : Int) : links (setE d i es) j + nms j (nd d i).ents = links d j + nms j es := links_upd (n := (nd d i).setEnts es) hi j
theorem used_setE (hi : has d i) (es : List Ent) : used (setE d i es) + entSize (nd d i).ents = used d + entSize es := by
  have := used_upd (n := (nd d i).setEnts es) hi
  unfold room1 at this
  simp only [Nd.setEnts] at this
  unfold setE
  simp only [Nd.setEnts]
  omega
theorem mass_setE (hi : has d i) (es : List Ent) : mass (setE d i es) + (nd d i).ents.length = mass d + es.length := by
  have := mass_upd (n := (nd d i).setEnts es) hi
  unfold mass1 at this
  simp only [Nd.setEnts] at this
  unfold setE
  simp only [Nd.setEnts]
  omega

theorem Nds.ext {d d' : Nds} (hl : d.length = d'.length) (h : ∀ j, nd d j = nd d' j) : d = d' := by
  apply List.ext_getElem?
  intro j
  by_cases hj : j < d.length
  · have h1 := nd_get (d := d) (i := j) (by omega) (by omega)
    have h2 := nd_get (d := d') (i := j) (by omega) (by omega)
    simp only [Int.toNat_natCast] at h1 h2
    rw [h1, h2, h]
  · rw [List.getElem?_eq_none (by omega), List.getElem?_eq_none (by omega)]

theorem length_setE (d : Nds) (i : Int) (es : List Ent) : (setE d i es).length = d.length := upd_length _ _ _

theorem setE_setE (hi : has d i) (es es' : List Ent) : setE (setE d i es) i es' = setE d i es' := by
  refine Nds.ext (by simp only [length_setE]) fun j => ?_
  rw [nd_setE ((has_setE hi es i).2 hi), nd_setE hi, nd_setE hi, nd_setE hi]
  by_cases e : j = i
  · rw [if_pos e, if_pos e, if_pos rfl]; rfl
  · rw [if_neg e, if_neg e, if_neg e]

theorem setE_self (hi : has d i) : setE d i (nd d i).ents = d := by
  refine Nds.ext (by simp only [length_setE]) fun j => ?_
  rw [nd_setE hi]
  split
  · next e => subst e; rfl
  · rfl

/-- Nodes that keep all but their entries. -/
theorem DInv.turned (h : DInv d) {d' : Nds} (hl : d'.length = d.length) (hnd : ∀ j, ∃ es, nd d' j = (nd d j).setEnts es ∧ Rising es ∧ (∀ e ∈ es, okName e.1 = true ∧ has d e.2 ∧ e.2 ≠ 1) ∧ ((nd d j).kind ≠ 2 → es = []))
    (hsg : ∀ j, (nd d j).kind = 2 → links d' j ≤ 1) (hac : ∀ j, Acc (Par d') j) : DInv d' := by
  have hkind : ∀ j, (nd d' j).kind = (nd d j).kind := fun j => by
    obtain ⟨es, h1, _⟩ := hnd j
    rw [h1]; rfl
  refine ⟨by rw [hl]; exact h.two, ?_, ?_, fun j => ?_, fun j e hj => ?_, fun j hj => ?_, hac⟩
  · obtain ⟨es, h1, _, _, h4⟩ := hnd 0
    rw [h.zero] at h1 h4
    have := h4 (by decide)
    subst this
    rw [h1]; rfl
  · rw [hkind]; exact h.root
  · obtain ⟨es, h1, h2, h3, h4⟩ := hnd j
    rw [h1]
    have hok := h.node j
    refine ⟨hok.kind0, hok.kind3, fun e => ?_, hok.mode0, hok.mode1, hok.holds, hok.data, hok.dirs, h4, h2, fun e he => (h3 e he).1⟩
    have e0 : (nd d j).kind = 0 := e
    have h5 := hok.gone e0
    have h6 := h4 (by rw [e0]; decide)
    rw [h5, h6]; rfl
  · obtain ⟨es, h1, h2, h3, h4⟩ := hnd j
    rw [h1] at hj
    have := h3 e hj
    refine ⟨?_, this.2.2⟩
    unfold has
    rw [hkind]
    exact this.2.1
  · rw [hkind] at hj; exact hsg j hj

/-- Entries of a directory turned. -/
theorem DInv.ents (h : DInv d) (hi : (nd d i).kind = 2) {es : List Ent} (hr : Rising es) (hnm : ∀ e ∈ es, okName e.1 = true) (htg : ∀ e ∈ es, has d e.2 ∧ e.2 ≠ 1)
    (hsg : ∀ j, (nd d j).kind = 2 → links (setE d i es) j ≤ 1) (hac : ∀ j, Acc (Par (setE d i es)) j) : DInv (setE d i es) := by
  have hh : has d i := by unfold has; rw [hi]; decide
  refine h.turned (length_setE d i es) (fun j => ?_) hsg hac
  rw [nd_setE hh]
  split
  · next e => subst e; exact ⟨es, rfl, hr, fun e he => ⟨hnm e he, htg e he⟩, fun h => absurd hi h⟩
  · exact ⟨(nd d j).ents, rfl, (h.node j).rising, fun e he => ⟨(h.node j).names e he, h.tgt j e he⟩, (h.node j).flat⟩

end

end Go.Proofs.YtfomkkoecelakaaDoor

/-
  Enter, Leave and Move of a disk at rest: the pure part.
-/
set_option maxRecDepth 100000
namespace Go.Proofs.YtfomkkoecelakaaDoor
open Go.RowKit

section
variable {d : Nds}

theorem setE_pos (h : DInv d) {i : Int} (hi : (nd d i).kind = 2) : has d i := by unfold has; rw [hi]; decide

/-- A directory is named at one place. -/
theorem DInv.named_once (h : DInv d) {i j j' : Int} {e e' : Ent} (hi : (nd d i).kind = 2) (hj : e ∈ (nd d j).ents) (he : e.2 = i) (hj' : e' ∈ (nd d j').ents) (he' : e'.2 = i) : j = j' ∧ e = e' := by
  have hc : cnt d i ≤ 1 := by
    have := h.single i hi
    unfold links at this
    omega
  have hh : has d j := by
    intro h0
    have := (h.node j).flat (by rw [h0]; decide)
    rw [this] at hj; cases hj
  have hck := cnt_kill hh i
  have hpos : 0 < namesOf i (nd d j) := namesOf_pos.2 ⟨e, hj, he⟩
  have hjj : j = j' := by
    refine Classical.byContradiction fun hne => ?_
    have : 0 < cnt (Go.Proofs.YtfomkkoecelakaaDoor.kill d j) i := cnt_pos.2 ⟨j', e', by rw [nd_kill hh, if_neg (fun e => hne e.symm)]; exact hj', he'⟩
    omega
  subst hjj
  refine ⟨rfl, ?_⟩
  have hr := (h.node j).rising
  have hg : entGet (nd d j).ents e.1 = some i := (entGet_iff hr).2 (by rw [← he]; exact hj)
  have hd := nms_del hr hg i
  rw [if_pos rfl] at hd
  have hnn : namesOf i (nd d j) = nms i (nd d j).ents := rfl
  refine Classical.byContradiction fun hne => ?_
  have hm : e' ∈ entDel (nd d j).ents e.1 := mem_entDel.2 ⟨hj', fun en => hne (rising_name hr hj hj' en.symm)⟩
  have := nms_pos.2 ⟨e', hm, he'⟩
  omega

theorem DInv.par_one (h : DInv d) {i j j' : Int} (hj : Par d j i) (hj' : Par d j' i) : j = j' := by
  obtain ⟨h1, e, h2, h3⟩ := hj
  obtain ⟨_, e', h2', h3'⟩ := hj'
  exact (h.named_once h1 h2 h3 h2' h3').1

def enterTo (d : Nds) (i : Int) (name : ByteArray) (k : Int) : Nds := setE d i (entPut (nd d i).ents name k)
def dropTo (d : Nds) (i : Int) (name : ByteArray) : Nds := setE d i (entDel (nd d i).ents name)

section enter
variable {i k : Int} {name : ByteArray}

theorem enter_links (hi : has d i) (hp : putErr (nd d i).ents name = 0) (j : Int) : links (enterTo d i name k) j = links d j + if k = j then 1 else 0 := by
  have := links_setE hi (entPut (nd d i).ents name k) j
  have := nms_put (k := k) (putErr_zero.1 hp).2 j
  unfold enterTo
  omega

theorem enter_used (hi : has d i) (hp : putErr (nd d i).ents name = 0) : used (enterTo d i name k) = used d + name.size := by
  have := used_setE hi (entPut (nd d i).ents name k)
  have := entSize_put (k := k) (putErr_zero.1 hp).2
  unfold enterTo
  omega

theorem enter_mass (hi : has d i) (hp : putErr (nd d i).ents name = 0) : mass (enterTo d i name k) = mass d + 1 := by
  have := mass_setE hi (entPut (nd d i).ents name k)
  have := len_put (k := k) (putErr_zero.1 hp).2
  unfold enterTo
  omega

theorem enter_par (hi : has d i) (hp : putErr (nd d i).ents name = 0) (hkl : (nd d k).kind = 2 → links d k = 0) {j x : Int} (h : Par (enterTo d i name k) j x) : (x ≠ k ∧ Par d j x) ∨ (x = k ∧ j = i) := by
  obtain ⟨h1, e, h2, h3⟩ := h
  unfold enterTo at h1 h2
  rw [kind_setE hi] at h1
  rw [ents_setE hi] at h2
  have hold : e ∈ (nd d j).ents → (x ≠ k ∧ Par d j x) ∨ (x = k ∧ j = i) := fun he => by
    have hP : Par d j x := ⟨h1, e, he, h3⟩
    refine .inl ⟨fun hx => ?_, hP⟩
    subst hx
    have := hP.links
    have := hkl h1
    omega
  split at h2
  · next hj =>
    subst hj
    rcases (mem_entPut (putErr_zero.1 hp).2 e).1 h2 with h4 | h4
    · exact hold h4
    · subst h4; exact .inr ⟨h3.symm, rfl⟩
  · exact hold h2

theorem enter_ne (h : DInv d) (hkl : (nd d k).kind = 2 → links d k = 0) : k ≠ 1 := fun e => by
  subst e
  have := hkl h.root
  unfold links at this
  rw [if_pos rfl] at this
  omega

theorem acc_mono {P P' : Int → Int → Prop} (hP : ∀ j i, P' j i → P j i) (hacc : ∀ i, Acc P i) : ∀ i, Acc P' i := fun i => by
  have := hacc i
  induction this with
  | intro i _ ih => exact ⟨i, fun j hj => ih j (hP j i hj)⟩

theorem enter_inv (h : DInv d) (hi : (nd d i).kind = 2) (hk : has d k) (hkl : (nd d k).kind = 2 → links d k = 0) (hp : putErr (nd d i).ents name = 0) (hno : (nd d k).kind = 2 → ¬ Above d k i) : DInv (enterTo d i name k) := by
  have hh := setE_pos h hi
  obtain ⟨hok, hhas⟩ := putErr_zero.1 hp
  refine h.ents hi ((h.node i).rising.put name k) (fun e he => ?_) (fun e he => ?_) (fun j hj => ?_) ?_
  · rcases (mem_entPut hhas e).1 he with h1 | h1
    · exact (h.node i).names e h1
    · subst h1; exact hok
  · rcases (mem_entPut hhas e).1 he with h1 | h1
    · exact h.tgt i e h1
    · subst h1; exact ⟨hk, enter_ne h hkl⟩
  · have := enter_links (k := k) hh hp j
    have hs := h.single j hj
    unfold enterTo at this
    split at this
    · next e => subst e; have := hkl hj; omega
    · omega
  · by_cases h2 : (nd d k).kind = 2
    · exact acc_reparent (fun j x hx => enter_par hh hp hkl hx) h.acyc (hno h2)
    · refine acc_mono (fun j x hx => ?_) h.acyc
      have hx' := enter_par hh hp hkl hx
      rcases hx' with h3 | ⟨h3, _⟩
      · exact h3.2
      · subst h3
        have := hx.1
        rw [kind_setE hh] at this
        exact absurd this h2

theorem IsDisk.enter {R R' : RD} {w w' : World} {a : Nat} {room : Int} {lk up : Int → Int} (hC : Casc R w a d room lk up zp) (hcl : NoGarb d) (hi : (nd d i).kind = 2) (hk : has d k) (hkl : (nd d k).kind = 2 → links d k = 0)
    (hp : putErr (nd d i).ents name = 0) (hno : (nd d k).kind = 2 → ¬ Above d k i)
    (rep : Rep R' w' a (enterTo d i name k) room (used (enterTo d i name k)) (setAt lk k (lk k + 1)) (if (nd d k).kind = 2 then setAt up k i else up))
    (hs : smallD (enterTo d i name k)) (hf : (used (enterTo d i name k) : Int) ≤ room) (hm : room ≤ 9223372036854775807) : IsDisk R' w' a (enterTo d i name k) room := by
  have hh := setE_pos hC.inv hi
  have hhas : ∀ j, has (enterTo d i name k) j ↔ has d j := has_setE hh _
  have hl := fun j => enter_links (k := k) hh hp j
  have hck := hC.cnt k hk
  refine ⟨⟨_, _, rep, enter_inv hC.inv hi hk hkl hp hno, fun j hj => ?_, fun j hj => absurd hj (by unfold zp; omega), fun j hj => ?_, hs, fun j hj => ?_⟩, fun j hj => ?_, hf, hm⟩
  · have h1 := hC.cnt j ((hhas j).1 hj)
    rw [hl j]
    by_cases e : j = k
    · subst e; rw [setAt_same, if_pos rfl]; omega
    · rw [setAt_other e, if_neg (fun h => e h.symm)]; omega
  · have hj' := (hhas j).1 hj
    obtain ⟨u1, u2, u3⟩ := hC.upok j hj'
    by_cases e : j = k
    · subst e
      rw [setAt_same]
      refine ⟨fun x hx => ?_, fun e1 => absurd e1 (enter_ne hC.inv hkl), fun e0 => ?_⟩
      · have hk2 := hx.1
        unfold enterTo at hk2
        rw [kind_setE hh] at hk2
        rw [if_pos hk2, setAt_same]
        rcases enter_par hh hp hkl hx with ⟨h1, _⟩ | ⟨_, h2⟩
        · exact absurd rfl h1
        · exact h2.symm
      · omega
    · rw [setAt_other e]
      have : (if (nd d k).kind = 2 then setAt up k i else up) j = up j := by
        split
        · exact setAt_other e
        · rfl
      rw [this]
      refine ⟨fun x hx => ?_, u2, u3⟩
      rcases enter_par hh hp hkl hx with ⟨_, h1⟩ | ⟨h1, _⟩
      · exact u1 x h1
      · exact absurd h1 e
  · have h1 := hC.lkb j ((hhas j).1 hj)
    have h2 := links_le d k
    have h3 := hC.small
    unfold smallD at h3
    unfold setAt
    split
    · unfold zp at hck; omega
    · exact h1
  · obtain ⟨g1, g2, g3⟩ := hj
    rw [hl j] at g2
    rw [show (nd (enterTo d i name k) j).holds = (nd d j).holds from holds_setE hh _ j] at g3
    exact hcl j ⟨(hhas j).1 g1, by omega, g3⟩

end enter

section leave
variable {i k : Int} {name : ByteArray}

theorem drop_links (h : DInv d) (hi : has d i) (hg : entGet (nd d i).ents name = some k) (j : Int) : links d j = links (dropTo d i name) j + if k = j then 1 else 0 := by
  have := links_setE hi (entDel (nd d i).ents name) j
  have := nms_del (h.node i).rising hg j
  unfold dropTo
  omega

theorem drop_used (h : DInv d) (hi : has d i) (hg : entGet (nd d i).ents name = some k) : used d = used (dropTo d i name) + name.size := by
  have := used_setE hi (entDel (nd d i).ents name)
  have := entSize_del (h.node i).rising hg
  unfold dropTo
  omega

theorem drop_mass (h : DInv d) (hi : has d i) (hg : entGet (nd d i).ents name = some k) : mass d = mass (dropTo d i name) + 1 := by
  have := mass_setE hi (entDel (nd d i).ents name)
  have := len_del (h.node i).rising hg
  unfold dropTo
  omega

theorem drop_par (hi : has d i) {j x : Int} (h : Par (dropTo d i name) j x) : Par d j x := by
  obtain ⟨h1, e, h2, h3⟩ := h
  unfold dropTo at h1 h2
  rw [kind_setE hi] at h1
  rw [ents_setE hi] at h2
  split at h2
  · next hj => subst hj; exact ⟨h1, e, (mem_entDel.1 h2).1, h3⟩
  · exact ⟨h1, e, h2, h3⟩

theorem drop_inv (h : DInv d) (hi : (nd d i).kind = 2) (hg : entGet (nd d i).ents name = some k) : DInv (dropTo d i name) := by
  have hh := setE_pos h hi
  refine h.ents hi ((h.node i).rising.del name) (fun e he => (h.node i).names e (mem_entDel.1 he).1) (fun e he => h.tgt i e (mem_entDel.1 he).1) (fun j hj => ?_) (acc_mono (fun j x hx => drop_par hh hx) h.acyc)
  have := drop_links h hh hg j
  have := h.single j hj
  unfold dropTo at *
  omega

def onePend (k : Int) : Int → Nat := fun j => if j = k then 1 else 0
theorem onePend_pos (k : Int) : 0 < onePend k k := by unfold onePend; rw [if_pos rfl]; decide
theorem decAt_onePend (k : Int) : decAt (onePend k) k = zp := by
  funext j
  unfold decAt onePend zp
  split <;> simp_all

theorem Casc.drop {R R' : RD} {w w' : World} {a : Nat} {room : Int} {lk up : Int → Int} (hC : Casc R w a d room lk up zp) (hcl : NoGarb d) (hi : (nd d i).kind = 2) (hg : entGet (nd d i).ents name = some k)
    (rep : Rep R' w' a (dropTo d i name) room (used (dropTo d i name)) lk up) : Casc R' w' a (dropTo d i name) room lk up (onePend k) ∧ ∀ j, ¬ PG (dropTo d i name) (onePend k) j := by
  have hh := setE_pos hC.inv hi
  have hhas : ∀ j, has (dropTo d i name) j ↔ has d j := has_setE hh _
  have hl := fun j => drop_links (k := k) hC.inv hh hg j
  have hm := drop_mass hC.inv hh hg
  refine ⟨⟨rep, drop_inv hC.inv hi hg, fun j hj => ?_, fun j hj => ?_, fun j hj => ?_, ?_, fun j hj => hC.lkb j ((hhas j).1 hj)⟩, fun j hj => ?_⟩
  · have h1 := hC.cnt j ((hhas j).1 hj)
    have h2 := hl j
    unfold zp at h1
    unfold onePend
    by_cases e : k = j
    · subst e; rw [if_pos rfl] at h2 ⊢; omega
    · rw [if_neg e] at h2; rw [if_neg (fun h => e h.symm)]; omega
  · unfold onePend at hj
    split at hj
    · next e => subst e; exact (hhas j).2 (hC.inv.tgt i _ (entGet_mem hg)).1
    · omega
  · obtain ⟨u1, u2, u3⟩ := hC.upok j ((hhas j).1 hj)
    exact ⟨fun x hx => u1 x (drop_par hh hx), u2, u3⟩
  · have := hC.small
    unfold smallD at *
    omega
  · obtain ⟨g1, g2, g3, g4⟩ := hj
    have h2 := hl j
    rw [show (nd (dropTo d i name) j).holds = (nd d j).holds from holds_setE hh _ j] at g4
    unfold onePend at g3
    refine hcl j ⟨(hhas j).1 g1, ?_, g4⟩
    rw [h2, g2]
    split
    · next e => subst e; rw [if_pos rfl] at g3; cases g3
    · rfl

end leave

end

end Go.Proofs.YtfomkkoecelakaaDoor

/-
  Move of a disk at rest: the pure part.
-/
set_option maxRecDepth 100000
namespace Go.Proofs.YtfomkkoecelakaaDoor
open Go.RowKit

/-- What the directory that is moved to comes to hold. -/
def movedAt (d : Nds) (t : Int) (other : ByteArray) (k : Int) : List Ent := if entHas (nd d t).ents other then entSet (nd d t).ents other k else entPut (nd d t).ents other k
def moveMid (d : Nds) (t : Int) (other : ByteArray) (k : Int) : Nds := setE d t (movedAt d t other k)
def moveTo (d : Nds) (f : Int) (name : ByteArray) (t : Int) (other : ByteArray) (k : Int) : Nds := dropTo (moveMid d t other k) f name
/-- Whose place is taken: named once less. -/
def movePend (d : Nds) (t : Int) (other : ByteArray) : Int → Nat := match entGet (nd d t).ents other with | some old => onePend old | none => zp

structure MoveOk (d : Nds) (f : Int) (name : ByteArray) (t : Int) (other : ByteArray) (k : Int) : Prop where
  inv : DInv d
  f2 : (nd d f).kind = 2
  t2 : (nd d t).kind = 2
  get : entGet (nd d f).ents name = some k
  ne : ¬ (f = t ∧ name = other)
  put : entHas (nd d t).ents other = false → putErr (nd d t).ents other = 0
  top : (nd d k).kind = 2 → ¬ Above d k t

section
variable {d : Nds} {f t k : Int} {name other : ByteArray} (M : MoveOk d f name t other k)
include M

theorem MoveOk.hf : has d f := setE_pos M.inv M.f2
theorem MoveOk.ht : has d t := setE_pos M.inv M.t2
theorem MoveOk.hk : has d k := (M.inv.tgt f _ (entGet_mem M.get)).1
theorem MoveOk.k1 : k ≠ 1 := (M.inv.tgt f _ (entGet_mem M.get)).2
theorem MoveOk.rt : Rising (nd d t).ents := (M.inv.node t).rising
theorem MoveOk.hfm : has (moveMid d t other k) f := (has_setE M.ht _ f).2 M.hf

theorem MoveOk.okOther : okName other = true := by
  cases h : entHas (nd d t).ents other with
  | false => exact (putErr_zero.1 (M.put h)).1
  | true =>
    obtain ⟨e, he, rfl⟩ := entHas_iff.1 h
    exact (M.inv.node t).names e he

theorem MoveOk.mem_at (e : Ent) (h : e ∈ movedAt d t other k) : e ∈ (nd d t).ents ∨ e = (other, k) := by
  have _ := M.inv
  unfold movedAt at h
  split at h
  · rcases mem_entSet.1 h with h1 | h1
    · exact .inl h1.1
    · exact .inr h1.1
  · next hh =>
    exact (mem_entPut (by simpa using hh) e).1 h

theorem MoveOk.rising_at : Rising (movedAt d t other k) := by
  unfold movedAt
  split
  · exact M.rt.set _ _
  · exact M.rt.put _ _

theorem MoveOk.get_mid : entGet (nd (moveMid d t other k) f).ents name = some k := by
  unfold moveMid
  rw [ents_setE M.ht]
  split
  · next e =>
    subst e
    have hne : name ≠ other := fun h => M.ne ⟨rfl, h⟩
    unfold movedAt
    split
    · rw [entGet_set_other M.rt hne]; exact M.get
    · next hh => rw [entGet_put_other M.rt (by simpa using hh) hne]; exact M.get
  · exact M.get

theorem MoveOk.ents (j : Int) : (nd (moveTo d f name t other k) j).ents = if j = f then entDel (nd (moveMid d t other k) f).ents name else if j = t then movedAt d t other k else (nd d j).ents := by
  unfold moveTo dropTo
  rw [ents_setE M.hfm]
  split
  · rfl
  · unfold moveMid; rw [ents_setE M.ht]

theorem MoveOk.rising_mid (j : Int) : Rising (nd (moveMid d t other k) j).ents := by
  unfold moveMid
  rw [ents_setE M.ht]
  split
  · exact M.rising_at
  · exact (M.inv.node j).rising

theorem MoveOk.mem (j : Int) (e : Ent) (h : e ∈ (nd (moveTo d f name t other k) j).ents) : (e ∈ (nd d j).ents ∧ (j = f → e.1 ≠ name)) ∨ (j = t ∧ e = (other, k)) := by
  rw [M.ents] at h
  have hmid : ∀ x ∈ (nd (moveMid d t other k) j).ents, x ∈ (nd d j).ents ∨ (j = t ∧ x = (other, k)) := fun x hx => by
    unfold moveMid at hx
    rw [ents_setE M.ht] at hx
    split at hx
    · next e => subst e; exact (M.mem_at x hx).imp id (fun h => ⟨rfl, h⟩)
    · exact .inl hx
  split at h
  · next e => subst e
              obtain ⟨h1, h2⟩ := mem_entDel.1 h
              exact (hmid e h1).imp (fun h => ⟨h, fun _ => h2⟩) id
  · next e1 =>
    split at h
    · next e => subst e; exact (M.mem_at e h).imp (fun h => ⟨h, fun h => absurd h e1⟩) (fun h => ⟨rfl, h⟩)
    · exact .inl ⟨h, fun h => absurd h e1⟩

theorem MoveOk.kind (j : Int) : (nd (moveTo d f name t other k) j).kind = (nd d j).kind := by
  unfold moveTo dropTo
  rw [kind_setE M.hfm]
  exact kind_setE M.ht _ j
theorem MoveOk.holds (j : Int) : (nd (moveTo d f name t other k) j).holds = (nd d j).holds := by
  unfold moveTo dropTo
  rw [holds_setE M.hfm]
  exact holds_setE M.ht _ j
theorem MoveOk.has (j : Int) : Go.Proofs.YtfomkkoecelakaaDoor.has (moveTo d f name t other k) j ↔ Go.Proofs.YtfomkkoecelakaaDoor.has d j := by
  unfold Go.Proofs.YtfomkkoecelakaaDoor.has
  rw [M.kind]

theorem MoveOk.links (j : Int) : Go.Proofs.YtfomkkoecelakaaDoor.links d j = Go.Proofs.YtfomkkoecelakaaDoor.links (moveTo d f name t other k) j + movePend d t other j := by
  have h1 := links_setE M.ht (movedAt d t other k) j
  have h2 := links_setE M.hfm (entDel (nd (moveMid d t other k) f).ents name) j
  have h3 := nms_del (M.rising_mid f) M.get_mid j
  unfold moveTo dropTo
  have h4 : nms j (movedAt d t other k) + movePend d t other j = nms j (nd d t).ents + if k = j then 1 else 0 := by
    unfold movedAt movePend
    cases hg : entGet (nd d t).ents other with
    | none =>
      have hh : entHas (nd d t).ents other = false := by rw [← entGet_isSome, hg]; rfl
      rw [if_neg (by rw [hh]; decide), nms_put hh]
      unfold zp; rfl
    | some old =>
      rw [if_pos (entGet_has hg), ← nms_set M.rt k hg j]
      unfold onePend
      by_cases e : old = j
      · subst e; simp
      · have e2 : ¬ j = old := fun h => e h.symm
        simp [e, e2]
  have hm : Go.Proofs.YtfomkkoecelakaaDoor.links (moveMid d t other k) j = Go.Proofs.YtfomkkoecelakaaDoor.links (setE d t (movedAt d t other k)) j := rfl
  omega

theorem MoveOk.used : Go.Proofs.YtfomkkoecelakaaDoor.used (moveTo d f name t other k) + name.size = Go.Proofs.YtfomkkoecelakaaDoor.used d + (if entHas (nd d t).ents other then 0 else other.size) := by
  have h1 := used_setE M.ht (movedAt d t other k)
  have h2 := used_setE M.hfm (entDel (nd (moveMid d t other k) f).ents name)
  have h3 := entSize_del (M.rising_mid f) M.get_mid
  have h4 : entSize (movedAt d t other k) = entSize (nd d t).ents + (if entHas (nd d t).ents other then 0 else other.size) := by
    unfold movedAt
    cases hh : entHas (nd d t).ents other with
    | false => simp only [Bool.false_eq_true, if_false]; exact entSize_put hh
    | true =>
      simp only [if_true]
      rw [← entGet_isSome] at hh
      obtain ⟨old, ho⟩ := Option.isSome_iff_exists.1 hh
      rw [entSize_set M.rt k ho]; rfl
  have hm : Go.Proofs.YtfomkkoecelakaaDoor.used (moveMid d t other k) = Go.Proofs.YtfomkkoecelakaaDoor.used (setE d t (movedAt d t other k)) := rfl
  unfold moveTo dropTo
  omega

theorem MoveOk.mass : Go.Proofs.YtfomkkoecelakaaDoor.mass (moveTo d f name t other k) ≤ Go.Proofs.YtfomkkoecelakaaDoor.mass d := by
  have h1 := mass_setE M.ht (movedAt d t other k)
  have h2 := mass_setE M.hfm (entDel (nd (moveMid d t other k) f).ents name)
  have h3 := len_del (M.rising_mid f) M.get_mid
  have h4 : (movedAt d t other k).length ≤ (nd d t).ents.length + 1 := by
    unfold movedAt
    cases hh : entHas (nd d t).ents other with
    | false => simp only [Bool.false_eq_true, if_false]; rw [len_put hh]; exact Nat.le_refl _
    | true => simp only [if_true]; rw [len_set]; omega
  have hm : Go.Proofs.YtfomkkoecelakaaDoor.mass (moveMid d t other k) = Go.Proofs.YtfomkkoecelakaaDoor.mass (setE d t (movedAt d t other k)) := rfl
  unfold moveTo dropTo
  omega

theorem MoveOk.par {j x : Int} (h : Par (moveTo d f name t other k) j x) : (x ≠ k ∧ Par d j x) ∨ (x = k ∧ j = t) := by
  obtain ⟨h1, e, h2, h3⟩ := h
  rw [M.kind] at h1
  rcases M.mem j e h2 with ⟨h4, h5⟩ | ⟨h4, h5⟩
  · refine .inl ⟨fun hx => ?_, h1, e, h4, h3⟩
    subst hx
    obtain ⟨e1, e2⟩ := M.inv.named_once h1 h4 h3 (entGet_mem M.get) rfl
    subst e1
    subst e2
    exact h5 rfl rfl
  · subst h5; exact .inr ⟨h3.symm, h4⟩

theorem MoveOk.after : DInv (moveTo d f name t other k) := by
  refine M.inv.turned ?_ (fun j => ?_) (fun j hj => ?_) ?_
  · unfold moveTo dropTo moveMid
    rw [length_setE, length_setE]
  · refine ⟨(nd (moveTo d f name t other k) j).ents, ?_, ?_, fun e he => ?_, fun h2 => ?_⟩
    · unfold moveTo dropTo
      rw [nd_setE M.hfm]
      split
      · next e => subst e
                  unfold moveMid
                  rw [nd_setE M.ht]
                  split
                  · next e => subst e; rfl
                  · rfl
      · unfold moveMid
        rw [nd_setE M.ht]
        split
        · next e => subst e; rfl
        · rfl
    · rw [M.ents]
      split
      · exact (M.rising_mid f).del name
      · split
        · exact M.rising_at
        · exact (M.inv.node j).rising
    · rcases M.mem j e he with ⟨h1, _⟩ | ⟨_, h1⟩
      · exact ⟨(M.inv.node j).names e h1, M.inv.tgt j e h1⟩
      · subst h1; exact ⟨M.okOther, M.hk, M.k1⟩
    · rw [M.ents]
      have h3 : j ≠ f := fun e => h2 (by subst e; exact M.f2)
      have h4 : j ≠ t := fun e => h2 (by subst e; exact M.t2)
      rw [if_neg h3, if_neg h4]
      exact (M.inv.node j).flat h2
  · have := M.links j
    have := M.inv.single j hj
    omega
  · by_cases h2 : (nd d k).kind = 2
    · exact acc_reparent (fun j x hx => M.par hx) M.inv.acyc (M.top h2)
    · refine acc_mono (fun j x hx => ?_) M.inv.acyc
      rcases M.par hx with h3 | ⟨h3, _⟩
      · exact h3.2
      · subst h3
        have := hx.1
        rw [M.kind] at this
        exact absurd this h2

theorem MoveOk.casc {R R' : RD} {w w' : World} {a : Nat} {room : Int} {lk up : Int → Int} (hC : Casc R w a d room lk up zp) (hcl : NoGarb d)
    (rep : Rep R' w' a (moveTo d f name t other k) room (Go.Proofs.YtfomkkoecelakaaDoor.used (moveTo d f name t other k)) lk (if (nd d k).kind = 2 then setAt up k t else up)) :
    Casc R' w' a (moveTo d f name t other k) room lk (if (nd d k).kind = 2 then setAt up k t else up) (movePend d t other) ∧ ∀ j, ¬ PG (moveTo d f name t other k) (movePend d t other) j := by
  have hl := M.links
  have hm := M.mass
  have hpend : ∀ j, 0 < movePend d t other j → Go.Proofs.YtfomkkoecelakaaDoor.has d j := fun j hj => by
    unfold movePend at hj
    cases ho : entGet (nd d t).ents other with
    | none => rw [ho] at hj; simp only at hj; unfold zp at hj; omega
    | some old =>
      rw [ho] at hj
      simp only at hj
      unfold onePend at hj
      split at hj
      · next e => subst e; exact (M.inv.tgt t _ (entGet_mem ho)).1
      · omega
  refine ⟨⟨rep, M.after, fun j hj => ?_, fun j hj => (M.has j).2 (hpend j hj), fun j hj => ?_, ?_, fun j hj => hC.lkb j ((M.has j).1 hj)⟩, fun j hj => ?_⟩
  · have h1 := hC.cnt j ((M.has j).1 hj)
    have h2 := hl j
    unfold zp at h1
    omega
  · have hj' := (M.has j).1 hj
    obtain ⟨u1, u2, u3⟩ := hC.upok j hj'
    by_cases e : j = k
    · subst e
      refine ⟨fun x hx => ?_, fun e1 => absurd e1 M.k1, fun e0 => ?_⟩
      · have hk2 := hx.1
        rw [M.kind] at hk2
        rw [if_pos hk2, setAt_same]
        rcases M.par hx with ⟨h1, _⟩ | ⟨_, h2⟩
        · exact absurd rfl h1
        · exact h2.symm
      · have h1 := hC.cnt j hj'
        have h2 : 0 < Go.Proofs.YtfomkkoecelakaaDoor.links d j := by
          have := (cnt_pos (i := j)).2 ⟨f, (name, j), entGet_mem M.get, rfl⟩
          unfold Go.Proofs.YtfomkkoecelakaaDoor.links
          omega
        omega
    · have : (if (nd d k).kind = 2 then setAt up k t else up) j = up j := by
        split
        · exact setAt_other e
        · rfl
      rw [this]
      refine ⟨fun x hx => ?_, u2, u3⟩
      rcases M.par hx with ⟨_, h1⟩ | ⟨h1, _⟩
      · exact u1 x h1
      · exact absurd h1 e
  · have := hC.small
    unfold smallD at *
    omega
  · obtain ⟨g1, g2, g3, g4⟩ := hj
    rw [M.holds] at g4
    have := hl j
    exact hcl j ⟨(M.has j).1 g1, by omega, g4⟩

end

end Go.Proofs.YtfomkkoecelakaaDoor

/-
  Directories and those above them: the pure part.
-/
set_option maxRecDepth 100000
namespace Go.Proofs.YtfomkkoecelakaaDoor
open Go.RowKit

theorem AboveR.trans {P : Int → Int → Prop} {a b c : Int} (h : AboveR P a b) (k : AboveR P b c) : AboveR P a c := by
  induction k with
  | self => exact h
  | step hp _ ih => exact .step hp ih

theorem acc_cycle {P : Int → Int → Prop} {i : Int} (h : Acc P i) : ∀ j, P j i → AboveR P i j → False := by
  induction h with
  | intro i _ ih =>
    intro j hj ha
    cases ha with
    | self => exact ih i hj i hj .self
    | step hp h2 => exact ih j hj _ hp (AboveR.trans (.step hj .self) h2)

theorem countP_lt {α : Type} {p q : α → Bool} {l : List α} (h : ∀ x ∈ l, p x = true → q x = true) (he : ∃ x ∈ l, q x = true ∧ p x = false) : l.countP p < l.countP q := by
  induction l with
  | nil => obtain ⟨x, hx, _⟩ := he; cases hx
  | cons a l ih =>
    rw [List.countP_cons, List.countP_cons]
    have hle : l.countP p ≤ l.countP q := List.countP_mono_left (fun x hx => h x (List.mem_cons_of_mem _ hx))
    obtain ⟨x, hx, h1, h2⟩ := he
    rcases List.mem_cons.1 hx with rfl | hx
    · rw [h1, h2]; simp; omega
    · have := ih (fun x hx => h x (List.mem_cons_of_mem _ hx)) ⟨x, hx, h1, h2⟩
      have ha := h a List.mem_cons_self
      cases h3 : p a with
      | false => simp only [Bool.false_eq_true, if_false, Nat.add_zero]; omega
      | true => rw [ha h3]; simp only [if_true]; omega

open Classical in
/-- How many directories are i, or above i. -/
noncomputable def ancs (d : Nds) (i : Int) : Nat := (List.range d.length).countP fun (k : Nat) => decide (Above d (k : Int) i)

theorem ancs_le (d : Nds) (i : Int) : ancs d i ≤ d.length := by
  unfold ancs
  have := List.countP_le_length (p := fun k => @decide (Above d ((k : Nat) : Int) i) (Classical.propDecidable _)) (l := List.range d.length)
  rw [List.length_range] at this
  exact this

theorem ancs_lt {d : Nds} (h : DInv d) {i j : Int} (hp : Par d j i) : ancs d j < ancs d i := by
  unfold ancs
  have hi : has d i := by unfold has; rw [hp.1]; decide
  have hr := has_range hi
  refine countP_lt (fun x _ hx => ?_) ⟨i.toNat, List.mem_range.2 hr.2, ?_, ?_⟩
  · simp only [decide_eq_true_eq] at hx ⊢
    exact .step hp hx
  · simp only [decide_eq_true_eq]
    rw [Int.toNat_of_nonneg hr.1]
    exact .self
  · simp only [decide_eq_false_iff_not]
    rw [Int.toNat_of_nonneg hr.1]
    exact fun ha => acc_cycle (h.acyc i) j hp ha

theorem ancs_pos {d : Nds} {i : Int} (hi : has d i) : 0 < ancs d i := by
  have hr := has_range hi
  unfold ancs
  rw [List.countP_pos_iff]
  refine ⟨i.toNat, List.mem_range.2 hr.2, ?_⟩
  simp only [decide_eq_true_eq]
  rw [Int.toNat_of_nonneg hr.1]
  exact .self

theorem Par.dir {d : Nds} (h : DInv d) {j i : Int} (hp : Par d j i) : (nd d j).kind = 2 := by
  obtain ⟨_, e, he, _⟩ := hp
  refine Classical.byContradiction fun hk => ?_
  rw [(h.node j).flat hk] at he; cases he

/-- Nothing but itself is above a directory that no entry names. -/
theorem above_top {d : Nds} {k i : Int} (hno : ∀ j, ¬ Par d j i) : Above d k i ↔ k = i := by
  constructor
  · intro h
    cases h with
    | self => rfl
    | step hp _ => exact absurd hp (hno _)
  · rintro rfl; exact .self

theorem above_par {d : Nds} (h : DInv d) {k i j : Int} (hp : Par d j i) (hne : k ≠ i) : Above d k i ↔ Above d k j := by
  constructor
  · intro ha
    cases ha with
    | self => exact absurd rfl hne
    | step hp2 h2 => rw [h.par_one hp hp2]; exact h2
  · exact .step hp

theorem no_par_root {d : Nds} (h : DInv d) (j : Int) : ¬ Par d j 1 := fun ⟨_, e, he, h2⟩ => (h.tgt j e he).2 h2
theorem no_par_zero {d : Nds} (h : DInv d) (j : Int) : ¬ Par d j 0 := fun ⟨h1, _⟩ => by rw [h.zero] at h1; cases h1
theorem no_par_cnt {d : Nds} {i : Int} (hc : cnt d i = 0) (j : Int) : ¬ Par d j i := fun ⟨_, e, he, h2⟩ => by
  have := cnt_pos.2 ⟨j, e, he, h2⟩
  omega

/-- What Up answers: the first that has an entry for i; the root if there is none. -/
def UpIs (d : Nds) (i u : Int) : Prop := (cnt d i = 0 ∧ u = 1) ∨ ∃ e, e ∈ (nd d u).ents ∧ e.2 = i

theorem UpIs.par {d : Nds} {i u : Int} (h : UpIs d i u) (hk : (nd d i).kind = 2) : (cnt d i = 0 ∧ u = 1) ∨ Par d u i := by
  rcases h with h | ⟨e, h1, h2⟩
  · exact .inl h
  · exact .inr ⟨hk, e, h1, h2⟩

end Go.Proofs.YtfomkkoecelakaaDoor
