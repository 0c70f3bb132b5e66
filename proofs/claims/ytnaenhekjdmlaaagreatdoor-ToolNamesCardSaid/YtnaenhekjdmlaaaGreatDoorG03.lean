/-
  More plain laws of a directory's entries: what Put, Set and Drop do to them as a heap of pairs. No program in sight.
-/
import Derived.Test.YtnaenhekjdmlaaaGreatDoorG01
import Derived.Test.YtnaenhekjdmlaaaGreatDoorG02
import Derived.Test.YtnaenhekjdmlaaaGreatDoorProg
import Derived.Shelf.Strings.SplitCore
import Derived.Shelf.Strings.Count
import Derived.Lib.SplitLaws
import Derived.BigQuiet
import Derived.Deep.QuietTactic
import Derived.Deep.RegionLaw
import Derived.Handy
import Derived.Deep.RegionWith
import Derived.Deep.CutRange
import Derived.Laws.ResultCell
import Derived.Lib.SlFresh

set_option linter.unusedSimpArgs false
set_option linter.unusedVariables false
set_option maxRecDepth 100000
namespace Go.Proofs.YtnaenhekjdmlaaaGreatDoor
theorem mem_entPut {es : List Ent} {name : ByteArray} {n : Int} (hno : entHas es name = false) (e : Ent) : e ∈ entPut es name n ↔ e ∈ es ∨ e = (name, n) := by
 have hne : ∀ x ∈ es, x.1 ≠ name := fun x hx e => by
  have : entHas es name = true := List.any_eq_true.2 ⟨x, hx, by simp [e]⟩
  rw [hno] at this; cases this
 unfold entPut
 simp only [List.mem_append, List.mem_filter, List.mem_singleton]
 constructor
 ·rintro ((⟨h, _⟩ | h) | ⟨h, _⟩)
  ·exact .inl h
  ·exact .inr h
  ·exact .inl h
 ·rintro (h | h)
  ·cases h1 : bLt e.1 name with
   | true => exact .inl (.inl ⟨h, rfl⟩)
   | false =>
     cases h2 : bLt name e.1 with
     | true => exact .inr ⟨h, rfl⟩
     | false => exact absurd (bLt_total h1 h2) (hne e h)
  ·exact .inl (.inr h)
theorem entHas_iff {es : List Ent} {name : ByteArray} : entHas es name = true ↔ ∃ e ∈ es, e.1 = name := by simp [entHas]
theorem entGet_isSome (es : List Ent) (name : ByteArray) : (entGet es name).isSome = entHas es name := by
 rw [Bool.eq_iff_iff, entHas_iff]
 simp [entGet]
theorem entGet_none {es : List Ent} {name : ByteArray} (h : entHas es name = false) : entGet es name = none := by
 have := entGet_isSome es name
 rw [h] at this
 simpa using this
theorem entGet_has {es : List Ent} {name : ByteArray} {k : Int} (h : entGet es name = some k) : entHas es name = true := by
 rw [<- entGet_isSome, h]; rfl
theorem entGet_mem {es : List Ent} {name : ByteArray} {k : Int} (h : entGet es name = some k) : (name, k) ∈ es := by
 unfold entGet at h
 rw [Option.map_eq_some_iff] at h
 obtain ⟨e, he, rfl⟩ := h
 have h1 := List.find?_some he
 have h2 := List.mem_of_find?_eq_some he
 have : e.1 = name := by simpa using h1
 subst this
 exact h2
theorem entPut_perm {es : List Ent} {name : ByteArray} {n : Int} (hno : entHas es name = false) : (entPut es name n).Perm ((name, n) :: es) := by
 have hne : ∀ x ∈ es, x.1 ≠ name := fun x hx e => by
  have : entHas es name = true := List.any_eq_true.2 ⟨x, hx, by simp [e]⟩
  rw [hno] at this; cases this
 have hgt : es.filter (fun e => bLt name e.1) = es.filter (fun e => !bLt e.1 name) := by
  refine List.filter_congr fun x hx => ?_
  cases h1 : bLt x.1 name with
  | true => rw [bLt_asymm h1]; rfl
  | false =>
    cases h2 : bLt name x.1 with
    | true => rfl
    | false => exact absurd (bLt_total h1 h2) (hne x hx)
 unfold entPut
 rw [hgt, List.append_assoc]
 refine List.perm_middle.trans (List.Perm.cons _ ?_)
 exact List.filter_append_perm _ _
theorem ent_split {es : List Ent} (h : Rising es) {name : ByteArray} {k : Int} (hk : entGet es name = some k) :
 es[lb es name]? = some (name, k) ∧ es = es.take (lb es name) ++ (name, k) :: es.drop (lb es name + 1) := by
 rw [get_at h] at hk
 cases hl : es[lb es name]? with
 | none => rw [hl] at hk; cases hk
 | some x =>
   rw [hl] at hk
   simp only at hk
   split at hk
   ·next e =>
    cases hk
    have hx : x = (name, x.2) := by rw [<- e]
    refine ⟨by rw [<- hx], ?_⟩
    obtain ⟨h1, h2⟩ := List.getElem?_eq_some_iff.1 hl
    rw [<- hx, <- h2, List.getElem_cons_drop, List.take_append_drop]
   ·cases hk
theorem entDel_perm {es : List Ent} (h : Rising es) {name : ByteArray} {k : Int} (hk : entGet es name = some k) : es.Perm ((name, k) :: entDel es name) := by
 have h2 := (ent_split h hk).2
 have hd := del_at h name (entGet_has hk)
 conv => lhs; rw [h2]
 refine List.perm_middle.trans (List.Perm.cons _ ?_)
 rw [hd]
theorem entSize_perm {l m : List Ent} (h : l.Perm m) : entSize l = entSize m := by
 unfold entSize
 exact (h.map _).sum_nat
theorem entHas_put {es : List Ent} {name : ByteArray} {n : Int} (hno : entHas es name = false) (x : ByteArray) : entHas (entPut es name n) x = (entHas es x || decide (x = name)) := by
 rw [Bool.eq_iff_iff, entHas_iff, Bool.or_eq_true, entHas_iff]
 simp only [mem_entPut hno, decide_eq_true_eq]
 constructor
 ·rintro ⟨e, h | h, rfl⟩
  ·exact .inl ⟨e, h, rfl⟩
  ·subst h; exact .inr rfl
 ·rintro (⟨e, h, rfl⟩ | h)
  ·exact ⟨e, .inl h, rfl⟩
  ·exact ⟨_, .inr rfl, h.symm⟩
theorem rising_ext : ∀ {l m : List Ent}, Rising l -> Rising m -> (∀ e, e ∈ l ↔ e ∈ m) -> l = m
 | [], [], _, _, _ => rfl
 | [], b :: m, _, _, h => by have := (h b).2 (by simp); cases this
 | a :: l, [], _, _, h => by have := (h a).1 (by simp); cases this
 | a :: l, b :: m, hl, hm, h => by
   have hl' := List.pairwise_cons.1 hl
   have hm' := List.pairwise_cons.1 hm
   have hab : a = b := by
    rcases List.mem_cons.1 ((h a).1 (by simp)) with e | e
    ·exact e
    ·rcases List.mem_cons.1 ((h b).2 (by simp)) with e2 | e2
     ·exact e2.symm
     ·have h1 := hm'.1 a e
      have h2 := hl'.1 b e2
      rw [bLt_asymm h1] at h2; cases h2
   subst hab
   congr 1
   refine rising_ext hl'.2 hm'.2 fun e => ?_
   constructor
   ·intro he
    rcases List.mem_cons.1 ((h e).1 (List.mem_cons_of_mem _ he)) with e2 | e2
    ·subst e2; have := hl'.1 e he; rw [bLt_irrefl] at this; cases this
    ·exact e2
   ·intro he
    rcases List.mem_cons.1 ((h e).2 (List.mem_cons_of_mem _ he)) with e2 | e2
    ·subst e2; have := hm'.1 e he; rw [bLt_irrefl] at this; cases this
    ·exact e2
theorem entDel_put {es : List Ent} (h : Rising es) {name : ByteArray} {n : Int} (hno : entHas es name = false) : entDel (entPut es name n) name = es := by
 refine rising_ext ((h.put name n).del name) h fun e => ?_
 unfold entDel
 rw [List.mem_filter, mem_entPut hno]
 constructor
 ·rintro ⟨h1 | h1, h2⟩
  ·exact h1
  ·subst h1; simp at h2
 ·intro he
  refine ⟨.inl he, ?_⟩
  cases hd : decide (e.1 = name) with
  | false => rfl
  | true =>
    have : entHas es name = true := List.any_eq_true.2 ⟨e, he, hd⟩
    rw [this] at hno; cases hno
theorem rising_name {l : List Ent} (h : Rising l) {x y : Ent} (hx : x ∈ l) (hy : y ∈ l) (e : x.1 = y.1) : x = y := by
 obtain ⟨i, hi⟩ := List.mem_iff_getElem?.1 hx
 obtain ⟨j, hj⟩ := List.mem_iff_getElem?.1 hy
 rcases Nat.lt_trichotomy i j with h1 | h1 | h1
 ·have := h.get hi hj h1; rw [e, bLt_irrefl] at this; cases this
 ·subst h1; rw [hi] at hj; cases hj; rfl
 ·have := h.get hj hi h1; rw [e, bLt_irrefl] at this; cases this
theorem entGet_iff {l : List Ent} (h : Rising l) {name : ByteArray} {k : Int} : entGet l name = some k ↔ (name, k) ∈ l := by
 refine ⟨entGet_mem, fun hm => ?_⟩
 have hh : entHas l name = true := entHas_iff.2 ⟨_, hm, rfl⟩
 rw [<- entGet_isSome] at hh
 obtain ⟨k', hk'⟩ := Option.isSome_iff_exists.1 hh
 have := rising_name h (entGet_mem hk') hm rfl
 rw [hk']
 cases this; rfl
theorem mem_entDel {l : List Ent} {name : ByteArray} {e : Ent} : e ∈ entDel l name ↔ e ∈ l ∧ e.1 ≠ name := by simp [entDel]
end Go.Proofs.YtnaenhekjdmlaaaGreatDoor
namespace Go.Proofs.YtnaenhekjdmlaaaGreatDoor
open Go.RowKit
section
variable {d : Nds} {i : Int} {n : Nd}
theorem cnt_none (h : DInv d) {j : Int} (hj : ¬ has d j) : cnt d j = 0 := by
 rcases Nat.eq_zero_or_pos (cnt d j) with h0 | h0
 ·exact h0
 ·obtain ⟨k, e, he, hi⟩ := cnt_pos.1 h0
  have := (h.tgt k e he).1
  rw [hi] at this
  exact absurd this hj
theorem has_append (hn : n.kind ≠ 0) (j : Int) : has (d ++ [n]) j ↔ j = d.length ∨ has d j := by
 unfold has
 rw [nd_append]
 split
 ·next e => subst e; exact ⟨fun _ => .inl rfl, fun _ => hn⟩
 ·next e => exact ⟨.inr, fun h => h.resolve_left e⟩
theorem not_has_length (d : Nds) : ¬ has d d.length := fun h => by have := has_range h; omega
theorem links_append (he : n.ents = []) (j : Int) : links (d ++ [n]) j = links d j := by
 unfold links cnt
 rw [sumBy_append]
 have : namesOf j n = 0 := by unfold namesOf; rw [he]; rfl
 omega
theorem par_append (h : DInv d) (he : n.ents = []) (j k : Int) : Par (d ++ [n]) j k ↔ Par d j k := by
 unfold Par
 rw [nd_append, nd_append]
 constructor
 ·rintro ⟨h1, e, h2, h3⟩
  split at h2
  ·rw [he] at h2; cases h2
  ·have := (h.tgt j e h2).1
   rw [h3] at this
   rw [if_neg (fun hk => by subst hk; exact not_has_length d this)] at h1
   exact ⟨h1, e, h2, h3⟩
 ·rintro ⟨h1, e, h2, h3⟩
  have hk : k ≠ d.length := fun hk => by
   have : has d k := by unfold has; rw [h1]; decide
   subst hk; exact not_has_length d this
  have hj : j ≠ d.length := fun hj => by
   subst hj
   rw [nd_gone (by omega)] at h2; cases h2
  rw [if_neg hk, if_neg hj]
  exact ⟨h1, e, h2, h3⟩
theorem DInv.add (h : DInv d) (hn : n.kind ≠ 0) (hok : NdOk n) (he : n.ents = []) : DInv (d ++ [n]) := by
 have h2 := h.two
 refine ⟨by rw [List.length_append]; omega, ?_, ?_, fun j => ?_, fun j e hj => ?_, fun j hj => ?_, fun j => ?_⟩
 ·rw [nd_append, if_neg (by omega)]; exact h.zero
 ·rw [nd_append, if_neg (by omega)]; exact h.root
 ·rw [nd_append]; split
  ·exact hok
  ·exact h.node j
 ·rw [nd_append] at hj
  split at hj
  ·rw [he] at hj; cases hj
  ·exact ⟨(has_append hn _).2 (.inr (h.tgt j e hj).1), (h.tgt j e hj).2⟩
 ·rw [links_append he]
  rw [nd_append] at hj
  split at hj
  ·next e =>
   subst e
   have := cnt_none h (not_has_length d)
   unfold links
   split <;> omega
  ·exact h.single j hj
 ·have := h.acyc j
  induction this with
  | intro j _ ih => exact ⟨j, fun k hk' => ih k ((par_append h he k j).1 hk')⟩
theorem noGarb_append (h : NoGarb d) (he : n.ents = []) (hh : n.holds ≠ 0) : NoGarb (d ++ [n]) := by
 intro j ⟨h1, h2, h3⟩
 rw [links_append he] at h2
 unfold has at h1
 rw [nd_append] at h1 h3
 split at h1
 ·next e => rw [if_pos e] at h3; exact hh h3
 ·next e => rw [if_neg e] at h3; exact h j ⟨h1, h2, h3⟩
theorem IsDisk.add {R R' : RD} {w w' : World} {a : Nat} {room : Int} {lk up : Int -> Int} (hC : Casc R w a d room lk up zp) (hcl : NoGarb d) (hn : n.kind ≠ 0) (hok : NdOk n) (he : n.ents = []) (hh : n.holds ≠ 0)
 (rep : Rep R' w' a (d ++ [n]) room (used (d ++ [n])) (setAt lk d.length 0) (setAt up d.length 0)) (hs : smallD (d ++ [n])) (hf : (used (d ++ [n]) : Int) <= room) (hm : room <= 9223372036854775807) : IsDisk R' w' a (d ++ [n]) room := by
 refine ⟨⟨_, _, rep, hC.inv.add hn hok he, fun j hj => ?_, fun j hj => absurd hj (by unfold zp; omega), fun j hj => ?_, hs, fun j hj => ?_⟩, noGarb_append hcl he hh, hf, hm⟩
 ·rw [links_append he]
  rcases (has_append hn j).1 hj with e | e
  ·subst e
   rw [setAt_same]
   have := cnt_none hC.inv (not_has_length d)
   have h2 := hC.inv.two
   unfold links zp
   rw [if_neg (by omega), this]; rfl
  ·have hne : j ≠ d.length := fun e1 => by subst e1; exact not_has_length d e
   rw [setAt_other hne]
   exact hC.cnt j e
 ·rcases (has_append hn j).1 hj with e | e
  ·subst e
   rw [setAt_same, setAt_same]
   have h2 := hC.inv.two
   refine ⟨fun k hk => ?_, fun e => by omega, fun _ => rfl⟩
   have hk := (par_append hC.inv he k _).1 hk
   have := hk.links
   have := cnt_none hC.inv (not_has_length d)
   unfold links at *
   rw [if_neg (by omega)] at *
   omega
  ·have hne : j ≠ d.length := fun e1 => by subst e1; exact not_has_length d e
   rw [setAt_other hne, setAt_other hne]
   obtain ⟨h1, h2, h3⟩ := hC.upok j e
   exact ⟨fun k hk => h1 k ((par_append hC.inv he k j).1 hk), h2, h3⟩
 ·rcases (has_append hn j).1 hj with e | e
  ·subst e; rw [setAt_same]; decide
  ·have hne : j ≠ d.length := fun e1 => by subst e1; exact not_has_length d e
   rw [setAt_other hne]; exact hC.lkb j e
theorem used_append (d : Nds) (n : Nd) : used (d ++ [n]) = used d + room1 n := sumBy_append _ _ _
theorem mass_append (d : Nds) (n : Nd) : mass (d ++ [n]) = mass d + mass1 n := sumBy_append _ _ _
inductive AboveR (P : Int -> Int -> Prop) (k : Int) : Int -> Prop
 | self : AboveR P k k
 | step {j i : Int} : P j i -> AboveR P k j -> AboveR P k i
abbrev Above (d : Nds) : Int -> Int -> Prop := AboveR (Par d)
theorem acc_reparent {P P' : Int -> Int -> Prop} {k t : Int} (hP : ∀ j i, P' j i -> (i ≠ k ∧ P j i) ∨ (i = k ∧ j = t)) (hacc : ∀ i, Acc P i) (hno : ¬ AboveR P k t) : ∀ i, Acc P' i := by
 have hA : ∀ i, Acc P i -> ¬ AboveR P k i -> Acc P' i := fun i h => by
  induction h with
  | intro i _ ih =>
    intro hn
    refine ⟨i, fun j hj => ?_⟩
    rcases hP j i hj with ⟨h1, h2⟩ | ⟨h1, _⟩
    ·exact ih j h2 (fun ha => hn (.step h2 ha))
    ·subst h1; exact absurd .self hn
 have ht := hA t (hacc t) hno
 intro i
 have := hacc i
 induction this with
 | intro i _ ih =>
   refine ⟨i, fun j hj => ?_⟩
   rcases hP j i hj with ⟨_, h2⟩ | ⟨h1, h2⟩
   ·exact ih j h2
   ·subst h2; exact ht
def setE (d : Nds) (i : Int) (es : List Ent) : Nds := upd d i ((nd d i).setEnts es)
def nms (j : Int) (es : List Ent) : Nat := es.countP fun e => decide (e.2 = j)
theorem nms_perm {l m : List Ent} (h : l.Perm m) (j : Int) : nms j l = nms j m := h.countP_eq _
theorem nms_cons (x : Ent) (l : List Ent) (j : Int) : nms j (x :: l) = nms j l + if x.2 = j then 1 else 0 := by
 unfold nms
 rw [List.countP_cons]
 simp
theorem nms_pos {j : Int} {l : List Ent} : 0 < nms j l ↔ ∃ e ∈ l, e.2 = j := by simp [nms, List.countP_pos_iff]
theorem nms_put {es : List Ent} {name : ByteArray} {k : Int} (h : entHas es name = false) (j : Int) : nms j (entPut es name k) = nms j es + if k = j then 1 else 0 := by
 rw [nms_perm (entPut_perm h), nms_cons]
theorem nms_del {es : List Ent} (hr : Rising es) {name : ByteArray} {k : Int} (h : entGet es name = some k) (j : Int) : nms j es = nms j (entDel es name) + if k = j then 1 else 0 := by
 rw [nms_perm (entDel_perm hr h), nms_cons]
theorem entSize_cons (x : Ent) (l : List Ent) : entSize (x :: l) = entSize l + x.1.size := by simp [entSize]; omega
theorem entSize_put {es : List Ent} {name : ByteArray} {k : Int} (h : entHas es name = false) : entSize (entPut es name k) = entSize es + name.size := by
 rw [entSize_perm (entPut_perm h), entSize_cons]
theorem len_put {es : List Ent} {name : ByteArray} {k : Int} (h : entHas es name = false) : (entPut es name k).length = es.length + 1 := by
 rw [(entPut_perm h).length_eq]; rfl
theorem len_del {es : List Ent} (hr : Rising es) {name : ByteArray} {k : Int} (h : entGet es name = some k) : es.length = (entDel es name).length + 1 := by
 rw [(entDel_perm hr h).length_eq]; rfl
theorem nd_setE (hi : has d i) (es : List Ent) (j : Int) : nd (setE d i es) j = if j = i then (nd d i).setEnts es else nd d j := nd_upd (has_range hi).1 (has_range hi).2 _ _
theorem kind_setE (hi : has d i) (es : List Ent) (j : Int) : (nd (setE d i es) j).kind = (nd d j).kind := by
 rw [nd_setE hi]
 split
 ·next e => subst e; rfl
 ·rfl
theorem holds_setE (hi : has d i) (es : List Ent) (j : Int) : (nd (setE d i es) j).holds = (nd d j).holds := by
 rw [nd_setE hi]
 split
 ·next e => subst e; rfl
 ·rfl
theorem ents_setE (hi : has d i) (es : List Ent) (j : Int) : (nd (setE d i es) j).ents = if j = i then es else (nd d j).ents := by
 rw [nd_setE hi]
 split <;> rfl
theorem has_setE (hi : has d i) (es : List Ent) (j : Int) : has (setE d i es) j ↔ has d j := has_upd (n := (nd d i).setEnts es) hi hi j
theorem links_setE (hi : has d i) (es : List Ent) (j : Int) : links (setE d i es) j + nms j (nd d i).ents = links d j + nms j es := links_upd (n := (nd d i).setEnts es) hi j
theorem used_setE (hi : has d i) (es : List Ent) : used (setE d i es) + entSize (nd d i).ents = used d + entSize es := by
 have := used_upd (n := (nd d i).setEnts es) hi
 unfold room1 at this
 simp only [Nd.setEnts] at this
 unfold setE
 simp only [Nd.setEnts]
 omega
theorem mass_setE (hi : has d i) (es : List Ent) : mass (setE d i es) + (nd d i).ents.length = mass d + es.length := by
 have := mass_upd (n := (nd d i).setEnts es) hi
 unfold mass1 at this
 simp only [Nd.setEnts] at this
 unfold setE
 simp only [Nd.setEnts]
 omega
theorem Nds.ext {d d' : Nds} (hl : d.length = d'.length) (h : ∀ j, nd d j = nd d' j) : d = d' := by
 apply List.ext_getElem?
 intro j
 by_cases hj : j < d.length
 ·have h1 := nd_get (d := d) (i := j) (by omega) (by omega)
  have h2 := nd_get (d := d') (i := j) (by omega) (by omega)
  simp only [Int.toNat_natCast] at h1 h2
  rw [h1, h2, h]
 ·rw [List.getElem?_eq_none (by omega), List.getElem?_eq_none (by omega)]
theorem length_setE (d : Nds) (i : Int) (es : List Ent) : (setE d i es).length = d.length := upd_length _ _ _
theorem setE_setE (hi : has d i) (es es' : List Ent) : setE (setE d i es) i es' = setE d i es' := by
 refine Nds.ext (by simp only [length_setE]) fun j => ?_
 rw [nd_setE ((has_setE hi es i).2 hi), nd_setE hi, nd_setE hi, nd_setE hi]
 by_cases e : j = i
 ·rw [if_pos e, if_pos e, if_pos rfl]; rfl
 ·rw [if_neg e, if_neg e, if_neg e]
theorem setE_self (hi : has d i) : setE d i (nd d i).ents = d := by
 refine Nds.ext (by simp only [length_setE]) fun j => ?_
 rw [nd_setE hi]
 split
 ·next e => subst e; rfl
 ·rfl
theorem DInv.turned (h : DInv d) {d' : Nds} (hl : d'.length = d.length) (hnd : ∀ j, ∃ es, nd d' j = (nd d j).setEnts es ∧ Rising es ∧ (∀ e ∈ es, okName e.1 = true ∧ has d e.2 ∧ e.2 ≠ 1) ∧ ((nd d j).kind ≠ 2 -> es = []))
 (hsg : ∀ j, (nd d j).kind = 2 -> links d' j <= 1) (hac : ∀ j, Acc (Par d') j) : DInv d' := by
 have hkind : ∀ j, (nd d' j).kind = (nd d j).kind := fun j => by
  obtain ⟨es, h1, _⟩ := hnd j
  rw [h1]; rfl
 refine ⟨by rw [hl]; exact h.two, ?_, ?_, fun j => ?_, fun j e hj => ?_, fun j hj => ?_, hac⟩
 ·obtain ⟨es, h1, _, _, h4⟩ := hnd 0
  rw [h.zero] at h1 h4
  have := h4 (by decide)
  subst this
  rw [h1]; rfl
 ·rw [hkind]; exact h.root
 ·obtain ⟨es, h1, h2, h3, h4⟩ := hnd j
  rw [h1]
  have hok := h.node j
  refine ⟨hok.kind0, hok.kind3, fun e => ?_, hok.mode0, hok.mode1, hok.holds, hok.data, hok.dirs, h4, h2, fun e he => (h3 e he).1⟩
  have e0 : (nd d j).kind = 0 := e
  have h5 := hok.gone e0
  have h6 := h4 (by rw [e0]; decide)
  rw [h5, h6]; rfl
 ·obtain ⟨es, h1, h2, h3, h4⟩ := hnd j
  rw [h1] at hj
  have := h3 e hj
  refine ⟨?_, this.2.2⟩
  unfold has
  rw [hkind]
  exact this.2.1
 ·rw [hkind] at hj; exact hsg j hj
theorem DInv.ents (h : DInv d) (hi : (nd d i).kind = 2) {es : List Ent} (hr : Rising es) (hnm : ∀ e ∈ es, okName e.1 = true) (htg : ∀ e ∈ es, has d e.2 ∧ e.2 ≠ 1)
 (hsg : ∀ j, (nd d j).kind = 2 -> links (setE d i es) j <= 1) (hac : ∀ j, Acc (Par (setE d i es)) j) : DInv (setE d i es) := by
 have hh : has d i := by unfold has; rw [hi]; decide
 refine h.turned (length_setE d i es) (fun j => ?_) hsg hac
 rw [nd_setE hh]
 split
 ·next e => subst e; exact ⟨es, rfl, hr, fun e he => ⟨hnm e he, htg e he⟩, fun h => absurd hi h⟩
 ·exact ⟨(nd d j).ents, rfl, (h.node j).rising, fun e he => ⟨(h.node j).names e he, h.tgt j e he⟩, (h.node j).flat⟩
end
set_option maxRecDepth 100000
set_option maxHeartbeats 1000000
def makeErr (d : Nds) (room kind m : Int) (s : ByteArray) : Int :=
 if kind < 1 then 43 else if 3 < kind then 43 else if kind = 2 ∧ s.size ≠ 0 then 43 else if okMode m = false then 10 else if 4194304 < s.size then 18 else if 65536 <= count d then 24 else if room - used d < s.size then 20 else 0
def newNd (kind m : Int) (s : ByteArray) : Nd := ⟨kind, m, 1, s, []⟩
section
variable {R : RD} {w : World} {a : Nat} {d : Nds} {room : Int}
theorem used_le2 {d : Nds} (h : DInv d) (hs : smallD d) : (used d : Int) <= 9007199254740992 := by
 have h1 := used_le h
 unfold smallD at hs
 omega
theorem make_end {lk up : Int -> Int} {us1 : Int} {w1 w5 : World} {kind m : Int} {s : ByteArray} (hC : Casc R w a d room lk up zp) (hcl : NoGarb d) (hfit : (used d : Int) + s.size <= room) (hmax : room <= 9223372036854775807) (hb : mass d + 2 <= 2147483648)
 (h1 : 1 <= kind) (h3 : kind <= 3) (h2 : kind ≠ 2 ∨ s = ⟨#[]⟩) (hm : okMode m = true) (hs : (s.size : Int) <= 4194304)
 (hR1 : Rep R w1 a d room us1 lk up) (hus : us1 = (used d : Int) + s.size) (hk1 : Keeps (fun x => x = a) w w1) (e8 T : TypeId) {cap : Nat} (hcap : cap = grownCap (w1.setCell ⟨a, 1, none⟩ (.int .i64 ((d.length : Int) + 1))) s.size 0 e8)
 {w4 : World} (hw4 : w4 = (Lib.bytesWorld (w1.setCell ⟨a, 1, none⟩ (.int .i64 ((d.length : Int) + 1))) e8 s).alloc (.cells #[.int .i64 kind, .int .i64 m, .int .i64 0, .int .i64 1, .slice (some ⟨w1.heap.size, 0, none⟩) s.size cap, .slice none 0 0, .int .i64 0] T))
 {g5 : Nat} (hm5 : IMap w5 R.b (R.kv ++ [((d.length : Int), .pointer (some ⟨g5, 0, none⟩))])) (hg5 : g5 = w1.heap.size + 1) (hk5 : Keeps (fun g => g = R.b) w4 w5) : DiskTo R w a (d ++ [newNd kind m s]) room w5 := by
 subst hg5
 have hab : ¬ a = R.b := fun e => by have := hC.rep.tagB; rw [<- e, hC.rep.tagA] at this; cases this
 have hsz2 : (w1.setCell ⟨a, 1, none⟩ (.int .i64 ((d.length : Int) + 1))).heap.size = w1.heap.size := by simp [World.setCell]
 obtain ⟨hO3, hk3⟩ := OwnB.conv (S := fun _ => True) (w1.setCell ⟨a, 1, none⟩ (.int .i64 ((d.length : Int) + 1))) e8 s trivial (by unfold maxLen; omega)
 rw [hsz2, <- hcap] at hO3
 have hsz3 := Lib.bytesWorld_size (w1.setCell ⟨a, 1, none⟩ (.int .i64 ((d.length : Int) + 1))) e8 s
 rw [hsz2] at hsz3
 generalize hw2 : w1.setCell ⟨a, 1, none⟩ (.int .i64 ((d.length : Int) + 1)) = w2 at *
 generalize hw3 : Lib.bytesWorld w2 e8 s = w3 at *
 have k12 : Keeps (fun x => x = a) w1 w2 := by rw [<- hw2]; exact keeps_set w1 ⟨a, 1, none⟩ _
 have k34 : Keeps NoB w3 w4 := by rw [hw4]; exact (Keeps.refl _ _).alloc _
 have k14 : Keeps (fun x => x = a) w1 w4 := (k12.trans hk3.of_none).trans k34.of_none
 have kk : Keeps (fun x => x = a ∨ x = R.b) w w5 := ((hk1.trans k14).mono (fun _ _ h => .inl h)).trans (hk5.mono (fun _ _ h => .inr h))
 have hal1 := hR1.alt
 have hc : ∀ (j : Nat), w5.cell? ⟨a, j, none⟩ = w2.cell? ⟨a, j, none⟩ := fun j => by
  have e1 : w4.cell? ⟨a, j, none⟩ = w2.cell? ⟨a, j, none⟩ := (hk3.trans k34).cell (p := ⟨a, j, none⟩) (by rw [hsz2]; exact hal1) (fun h => h)
  rw [<- e1]
  exact hk5.cell (p := ⟨a, j, none⟩) (Nat.lt_of_lt_of_le hal1 k14.size) hab
 have hf : ∀ (j : Nat), w5.frozen? ⟨a, j, none⟩ = w2.frozen? ⟨a, j, none⟩ := fun j => by
  have e1 : w4.frozen? ⟨a, j, none⟩ = w2.frozen? ⟨a, j, none⟩ := (hk3.trans k34).frozen (p := ⟨a, j, none⟩) (by rw [hsz2]; exact hal1) (fun h => h)
  rw [<- e1]
  exact hk5.frozen (p := ⟨a, j, none⟩) (Nat.lt_of_lt_of_le hal1 k14.size) hab
 have hsz4 : w4.heap.size = w1.heap.size + 2 := by rw [hw4]; simp; omega
 have hbt : R.b < w1.heap.size := hR1.map.lt
 have hnew := heap_alloc_new w3 (.cells #[.int .i64 kind, .int .i64 m, .int .i64 0, .int .i64 1, .slice (some ⟨w1.heap.size, 0, none⟩) s.size cap, .slice none 0 0, .int .i64 0] T)
 rw [<- hw4, hsz3] at hnew
 have hn5 : w5.heap[w1.heap.size + 1]? = some (.cells #[.int .i64 kind, .int .i64 m, .int .i64 0, .int .i64 1, .slice (some ⟨w1.heap.size, 0, none⟩) s.size cap, .slice none 0 0, .int .i64 0] T) := (hk5.block _ (by omega) (by omega)).trans hnew
 have hcell : ∀ j v, (#[Value.int .i64 kind, .int .i64 m, .int .i64 0, .int .i64 1, .slice (some ⟨w1.heap.size, 0, none⟩) s.size cap, .slice none 0 0, .int .i64 0] : Array Value)[j]? = some v -> w5.cell? ⟨w1.heap.size + 1, j, none⟩ = some v := fun j v hv => by
  rw [cell_of_row w5 _ j _ T (0, 0) hn5]; exact hv
 have hO5 : OwnB (fun _ => True) w5 (.slice (some ⟨w1.heap.size, 0, none⟩) s.size cap) s := (hO3.keep k34 (fun _ _ h => h)).keep hk5 (fun g hg e => by
  have e' : g = R.b := e
  simp [Value.ownBlock] at hg; omega)
 have hN : NodeAt w5 (w1.heap.size + 1) (.slice (some ⟨w1.heap.size, 0, none⟩) s.size cap) (.slice none 0 0) (newNd kind m s) 0 0 :=
  ⟨hcell 0 _ rfl, hcell 1 _ rfl, hcell 2 _ rfl, hcell 3 _ rfl, hcell 4 _ rfl, hO5, ⟨hcell 5 _ rfl, frozen_of_row w5 _ 5 _ T hn5, rfl, Own.nil _ _ _ _, List.Pairwise.nil, (fun _ h => by cases h), (fun h => by simp [Value.ownBlock] at h)⟩, hcell 6 _ rfl, fun j => frozen_of_row w5 _ j _ T hn5⟩
 have hle := hk1.size
 have hnd0 : (newNd kind m s).kind ≠ 0 := by unfold newNd; simp only; omega
 obtain ⟨R', hR', hT⟩ := hC.rep.add kk (n := newNd kind m s) hnd0 (us' := us1) (w1.heap.size + 1) (.slice (some ⟨w1.heap.size, 0, none⟩) s.size cap)
  ((hc 0).trans (by rw [<- hw2]; exact cell_set hR1.l)) ((hc 1).trans (by rw [<- hw2]; exact cell_set hR1.next)) ((hc 2).trans (by rw [<- hw2]; exact cell_set hR1.used)) ((hc 3).trans (by rw [<- hw2]; exact cell_set hR1.room))
  (fun j => (hf j).trans (by rw [<- hw2]; exact (frozen_set _ _ _ _).trans (hR1.fz j))) hm5 (by omega) (fun x hx => by simp [Value.ownBlock] at hx; omega) hN
 have hmo : 0 <= m ∧ m <= 4095 := by simpa [okMode] using hm
 have hok : NdOk (newNd kind m s) := ⟨by unfold newNd; simp only; omega, by unfold newNd; simp only; omega, fun e => absurd e hnd0, hmo.1, hmo.2, (by show (0 : Int) <= 1; decide), by unfold newNd; simp only; omega,
  fun e => h2.elim (fun h => absurd e h) id, fun _ => rfl, List.Pairwise.nil, (fun _ h => by cases h)⟩
 have hu : used (d ++ [newNd kind m s]) = used d + s.size := by
  rw [used_append]; unfold room1 newNd; simp [entSize]
 refine ⟨R', IsDisk.add hC hcl hnd0 hok rfl (by show (1 : Int) ≠ 0; decide) (by rw [hu]; rw [hus] at hR'; exact_mod_cast hR') ?_ (by rw [hu]; omega) hmax, hT⟩
 unfold smallD
 rw [mass_append]
 unfold mass1 newNd
 simp only [List.length_nil]
 omega
theorem make_any (h : IsDisk R w a d room) (kind m : Int) (s : ByteArray) (hb : mass d + 2 <= 2147483648) (he : makeErr d room kind m s = 0) :
 Calls Tryz.prog 66 #[.pointer (some ⟨a, 0, none⟩), .int .i64 kind, .int .i64 m, .string s] w fun e w' => e = .returned (.tuple #[.int .i64 d.length, .int .i64 0]) ∧ DiskTo R w a (d ++ [newNd kind m s]) room w' := by
 have H := Lib.hid h
 obtain ⟨⟨lk, up, hC⟩, hcl, hfit, hmax⟩ := h
 unfold makeErr at he
 split at he; · cases he
 split at he; · cases he
 split at he; · cases he
 split at he; · cases he
 split at he; · cases he
 split at he; · cases he
 split at he; · cases he
 next c1 c2 c3 c4 c5 c6 c7 =>
 have hmode : okMode m = true := by simpa using c4
 have hr := right_any m w
 rw [hmode] at hr
 have hl := hC.rep.l
 have hlen := hC.rep.map.len (P := Tryz.prog) Tryz.underlying106 3
 rw [hC.rep.len, show goInt ((count d : Nat) : Int) = .int .i64 (count d : Nat) from rfl] at hlen
 have hul := used_le2 hC.inv hC.small
 have hconv := fun wx => Lib.run_convert_string_bytes (P := Tryz.prog) wx 9 28 5 s Tryz.underlying9 Tryz.underlying28 Tryz.underlying5
 have hml := mass_ge d
 have htake := take_any hC.rep s.size (by omega) hfit hmax (by omega) (by omega)
 have ht : (decide ((s.size : Int) <= room - used d)) = true := decide_eq_true (by omega)
 have htu : takeU room (used d) s.size = used d + s.size := if_pos (by omega)
 rw [ht, htu] at htake
 have hlt : ¬ (65536 <= (count d : Int)) := by omega
 have hls : ¬ (4194304 < (s.size : Int)) := by omega
 have hlt2 : (65536 <= (count d : Int)) = False := by simp; omega
 have hw1 : wrap64 ((d.length : Int) + 1) = (d.length : Int) + 1 := IntWalk.wrap64_in _ (by omega)
 have hno : kvGet R.kv d.length = none := by rw [hC.rep.get, if_neg (not_has_length d)]
 have hab : ¬ R.b = a := fun e => by have := hC.rep.tagB; rw [e, hC.rep.tagA] at this; cases this
 have k2 : kind ≠ 2 ∨ (kind = 2 ∧ s = ⟨#[]⟩) := by
  by_cases e : kind = 2
  ·refine .inr ⟨e, ByteArray.ext (Array.eq_empty_of_size_eq_zero ?_)⟩
   by_cases e0 : s.size = 0
   ·exact e0
   ·exact absurd ⟨e, e0⟩ c3
  ·exact .inl e
 have hs32 : s.size <= maxLen := by unfold maxLen; omega
 have HE := Lib.hid (fun w1 w4 w5 cap => make_end (w1 := w1) (w4 := w4) (w5 := w5) (cap := cap) (kind := kind) (m := m) (s := s) hC hcl (by omega) hmax hb (by omega) (by omega) (k2.imp id And.right) hmode (by omega) (us1 := (used d : Int) + s.size))
 clear hC hcl hul ht htu hb hmode c7 c6 c5 c4 hfit hmax hml c3
 generalize (count d : Int) = cd at *
 generalize (used d : Int) = u at *
 rcases k2 with k2 | ⟨rfl, rfl⟩
 all_goals
  go_enter Tryz.func66, Tryz.ntmps66
  go_wp2_with (first | (go_at_call 107; refine hr.mono ?_; rintro e w1 ⟨rfl, rfl⟩) | (go_at_call 105; refine htake.mono ?_; rintro e w1 ⟨rfl, hR1, hk1⟩; have hl1 := hR1.l; have hn1 := hR1.next; have hf1 := hR1.fz 1) | (at_mapUpdate; refine wpl_mapUpdate rfl (.tmp 61) (.tmp 62) (.tmp 68) _ rfl Tryz.underlying106 Tryz.underlying3 rfl (((hR1.map.keep (keeps_set w1 ⟨a, 1, none⟩ _) hab).keep (OwnB.conv (S := fun _ => True) _ _ _ trivial hs32).2 (fun h => h)).keep ((Keeps.refl NoB _).alloc _) (fun h => h)) rfl rfl hno ?_; intro w5 hm5 hk5))
 all_goals
  go_ret2
  exact ⟨rfl, HE.out _ _ _ _ hR1 trivial hk1 _ _ rfl rfl hm5 (by rw [Lib.bytesWorld_size]; simp [World.setCell]) hk5⟩
theorem Casc.re {R' : RD} {w' : World} {lk up : Int -> Int} {pend : Int -> Nat} (h : Casc R w a d room lk up pend) (rep : Rep R' w' a d room (used d) lk up) : Casc R' w' a d room lk up pend :=
 ⟨rep, h.inv, h.cnt, h.pres, h.upok, h.small, h.lkb⟩
theorem make_err (h : IsDisk R w a d room) (kind m : Int) (s : ByteArray) (hsz : s.size <= 4294967296) (he : makeErr d room kind m s ≠ 0) :
 Calls Tryz.prog 66 #[.pointer (some ⟨a, 0, none⟩), .int .i64 kind, .int .i64 m, .string s] w fun e w' => e = .returned (.tuple #[.int .i64 0, .int .i64 (makeErr d room kind m s)]) ∧ DiskTo R w a d room w' := by
 have H := Lib.hid h
 obtain ⟨⟨lk, up, hC⟩, hcl, hfit, hmax⟩ := h
 have hul := used_le2 hC.inv hC.small
 have htake := take_any hC.rep s.size (by omega) hfit hmax (by omega) (by omega)
 have hfa := hC.rep.fA
 have hl := hC.rep.l
 have hlen := hC.rep.map.len (P := Tryz.prog) Tryz.underlying106 3
 rw [hC.rep.len, show goInt ((count d : Nat) : Int) = .int .i64 (count d : Nat) from rfl] at hlen
 have hr := right_any m w
 have HE := Lib.hid (fun (w1 : World) (hR : Rep R w1 a d room (used d) lk up) (hk : Keeps (fun x => x = a) w w1) => (⟨R, ⟨⟨lk, up, hC.re hR⟩, hcl, hfit, hmax⟩, Turn.of (hk.mono (fun x _ hx => by subst hx; exact hfa))⟩ : DiskTo R w a d room w1))
 unfold makeErr at he ⊢
 clear hC hcl hul hmax hfit
 by_cases c1 : kind < 1
 ·rw [if_pos c1]
  clear he
  go_enter Tryz.func66, Tryz.ntmps66
  go_wp2
  go_ret2
  exact ⟨rfl, H.out.same (Keeps.refl _ _)⟩
 rw [if_neg c1] at he ⊢
 by_cases c2 : 3 < kind
 ·rw [if_pos c2]
  clear he
  go_enter Tryz.func66, Tryz.ntmps66
  go_wp2
  go_ret2
  exact ⟨rfl, H.out.same (Keeps.refl _ _)⟩
 rw [if_neg c2] at he ⊢
 by_cases c3 : kind = 2 ∧ s.size ≠ 0
 ·rw [if_pos c3]
  obtain ⟨rfl, c3⟩ := c3
  have hne : (s.toList == []) = false := beq_false_of_ne (fun e => c3 ((toList_nil s).1 e))
  clear he c3
  go_enter Tryz.func66, Tryz.ntmps66
  go_wp2
  go_ret2
  exact ⟨rfl, H.out.same (Keeps.refl _ _)⟩
 rw [if_neg c3] at he ⊢
 have k2 : kind ≠ 2 ∨ (kind = 2 ∧ s = ⟨#[]⟩) := by
  by_cases e : kind = 2
  ·refine .inr ⟨e, ByteArray.ext (Array.eq_empty_of_size_eq_zero ?_)⟩
   by_cases e0 : s.size = 0
   ·exact e0
   ·exact absurd ⟨e, e0⟩ c3
  ·exact .inl e
 clear c3
 by_cases c4 : okMode m = false
 ·rw [if_pos c4]
  rw [c4] at hr
  clear he c4
  rcases k2 with k2 | ⟨rfl, rfl⟩
  all_goals
   go_enter Tryz.func66, Tryz.ntmps66
   go_wp2_with (go_at_call 107; refine hr.mono ?_; rintro e w1 ⟨rfl, rfl⟩)
   go_ret2
   exact ⟨rfl, H.out.same (Keeps.refl _ _)⟩
 rw [if_neg c4] at he ⊢
 rw [show okMode m = true by simpa using c4] at hr
 clear c4
 by_cases c5 : 4194304 < s.size
 ·rw [if_pos c5]
  have c5' : ¬ ((s.size : Int) <= 4194304) := by omega
  rcases k2 with k2 | ⟨rfl, rfl⟩
  ·clear he c5
   go_enter Tryz.func66, Tryz.ntmps66
   go_wp2_with (go_at_call 107; refine hr.mono ?_; rintro e w1 ⟨rfl, rfl⟩)
   go_ret2
   exact ⟨rfl, H.out.same (Keeps.refl _ _)⟩
  ·exact absurd c5 (by decide)
 rw [if_neg c5] at he ⊢
 have c5' : (s.size : Int) <= 4194304 := by omega
 clear c5
 by_cases c6 : 65536 <= count d
 ·rw [if_pos c6]
  have c6' : 65536 <= (count d : Int) := by omega
  clear he c6
  generalize (count d : Int) = cd at *
  rcases k2 with k2 | ⟨rfl, rfl⟩
  all_goals
   go_enter Tryz.func66, Tryz.ntmps66
   go_wp2_with (go_at_call 107; refine hr.mono ?_; rintro e w1 ⟨rfl, rfl⟩)
   go_ret2
   exact ⟨rfl, H.out.same (Keeps.refl _ _)⟩
 rw [if_neg c6] at he ⊢
 have c6' : ¬ (65536 <= (count d : Int)) := by omega
 have c6'' : (65536 <= (count d : Int)) = False := by simp; omega
 clear c6
 by_cases c7 : room - used d < s.size
 ·rw [if_pos c7]
  rw [show (decide ((s.size : Int) <= room - used d)) = false from decide_eq_false (by omega), show takeU room (used d) s.size = used d from if_neg (by omega)] at htake
  clear he c7
  generalize (count d : Int) = cd at *
  generalize (used d : Int) = u at *
  rcases k2 with k2 | ⟨rfl, rfl⟩
  all_goals
   go_enter Tryz.func66, Tryz.ntmps66
   go_wp2_with (first | (go_at_call 107; refine hr.mono ?_; rintro e w1 ⟨rfl, rfl⟩) | (go_at_call 105; refine htake.mono ?_; rintro e w1 ⟨rfl, hR1, hk1⟩))
   go_ret2
   exact ⟨rfl, HE.out _ hR1 hk1⟩
 ·rw [if_neg c7] at he
  exact absurd rfl he
def makeTo (d : Nds) (room kind m : Int) (s : ByteArray) : Nds := if makeErr d room kind m s = 0 then d ++ [newNd kind m s] else d
def makeId (d : Nds) (room kind m : Int) (s : ByteArray) : Int := if makeErr d room kind m s = 0 then d.length else 0
theorem makeD_any (h : IsDisk R w a d room) (kind m : Int) (s : ByteArray) (hb : mass d + 2 <= 2147483648) (hsz : s.size <= 4294967296) :
 Calls Tryz.prog 66 #[.pointer (some ⟨a, 0, none⟩), .int .i64 kind, .int .i64 m, .string s] w fun e w' => e = .returned (.tuple #[.int .i64 (makeId d room kind m s), .int .i64 (makeErr d room kind m s)]) ∧ DiskTo R w a (makeTo d room kind m s) room w' := by
 unfold makeId makeTo
 by_cases he : makeErr d room kind m s = 0
 ·rw [if_pos he, if_pos he, he]; exact make_any h kind m s hb he
 ·rw [if_neg he, if_neg he]; exact make_err h kind m s hsz he
end
section
variable {d : Nds}
theorem setE_pos (h : DInv d) {i : Int} (hi : (nd d i).kind = 2) : has d i := by unfold has; rw [hi]; decide
theorem DInv.named_once (h : DInv d) {i j j' : Int} {e e' : Ent} (hi : (nd d i).kind = 2) (hj : e ∈ (nd d j).ents) (he : e.2 = i) (hj' : e' ∈ (nd d j').ents) (he' : e'.2 = i) : j = j' ∧ e = e' := by
 have hc : cnt d i <= 1 := by
  have := h.single i hi
  unfold links at this
  omega
 have hh : has d j := by
  intro h0
  have := (h.node j).flat (by rw [h0]; decide)
  rw [this] at hj; cases hj
 have hck := cnt_kill hh i
 have hpos : 0 < namesOf i (nd d j) := namesOf_pos.2 ⟨e, hj, he⟩
 have hjj : j = j' := by
  refine Classical.byContradiction fun hne => ?_
  have : 0 < cnt (Go.Proofs.YtnaenhekjdmlaaaGreatDoor.kill d j) i := cnt_pos.2 ⟨j', e', by rw [nd_kill hh, if_neg (fun e => hne e.symm)]; exact hj', he'⟩
  omega
 subst hjj
 refine ⟨rfl, ?_⟩
 have hr := (h.node j).rising
 have hg : entGet (nd d j).ents e.1 = some i := (entGet_iff hr).2 (by rw [<- he]; exact hj)
 have hd := nms_del hr hg i
 rw [if_pos rfl] at hd
 have hnn : namesOf i (nd d j) = nms i (nd d j).ents := rfl
 refine Classical.byContradiction fun hne => ?_
 have hm : e' ∈ entDel (nd d j).ents e.1 := mem_entDel.2 ⟨hj', fun en => hne (rising_name hr hj hj' en.symm)⟩
 have := nms_pos.2 ⟨e', hm, he'⟩
 omega
theorem DInv.par_one (h : DInv d) {i j j' : Int} (hj : Par d j i) (hj' : Par d j' i) : j = j' := by
 obtain ⟨h1, e, h2, h3⟩ := hj
 obtain ⟨_, e', h2', h3'⟩ := hj'
 exact (h.named_once h1 h2 h3 h2' h3').1
def enterTo (d : Nds) (i : Int) (name : ByteArray) (k : Int) : Nds := setE d i (entPut (nd d i).ents name k)
def dropTo (d : Nds) (i : Int) (name : ByteArray) : Nds := setE d i (entDel (nd d i).ents name)
section enter
variable {i k : Int} {name : ByteArray}
theorem enter_links (hi : has d i) (hp : putErr (nd d i).ents name = 0) (j : Int) : links (enterTo d i name k) j = links d j + if k = j then 1 else 0 := by
 have := links_setE hi (entPut (nd d i).ents name k) j
 have := nms_put (k := k) (putErr_zero.1 hp).2 j
 unfold enterTo
 omega
theorem enter_used (hi : has d i) (hp : putErr (nd d i).ents name = 0) : used (enterTo d i name k) = used d + name.size := by
 have := used_setE hi (entPut (nd d i).ents name k)
 have := entSize_put (k := k) (putErr_zero.1 hp).2
 unfold enterTo
 omega
theorem enter_mass (hi : has d i) (hp : putErr (nd d i).ents name = 0) : mass (enterTo d i name k) = mass d + 1 := by
 have := mass_setE hi (entPut (nd d i).ents name k)
 have := len_put (k := k) (putErr_zero.1 hp).2
 unfold enterTo
 omega
theorem enter_par (hi : has d i) (hp : putErr (nd d i).ents name = 0) (hkl : (nd d k).kind = 2 -> links d k = 0) {j x : Int} (h : Par (enterTo d i name k) j x) : (x ≠ k ∧ Par d j x) ∨ (x = k ∧ j = i) := by
 obtain ⟨h1, e, h2, h3⟩ := h
 unfold enterTo at h1 h2
 rw [kind_setE hi] at h1
 rw [ents_setE hi] at h2
 have hold : e ∈ (nd d j).ents -> (x ≠ k ∧ Par d j x) ∨ (x = k ∧ j = i) := fun he => by
  have hP : Par d j x := ⟨h1, e, he, h3⟩
  refine .inl ⟨fun hx => ?_, hP⟩
  subst hx
  have := hP.links
  have := hkl h1
  omega
 split at h2
 ·next hj =>
  subst hj
  rcases (mem_entPut (putErr_zero.1 hp).2 e).1 h2 with h4 | h4
  ·exact hold h4
  ·subst h4; exact .inr ⟨h3.symm, rfl⟩
 ·exact hold h2
theorem enter_ne (h : DInv d) (hkl : (nd d k).kind = 2 -> links d k = 0) : k ≠ 1 := fun e => by
 subst e
 have := hkl h.root
 unfold links at this
 rw [if_pos rfl] at this
 omega
theorem acc_mono {P P' : Int -> Int -> Prop} (hP : ∀ j i, P' j i -> P j i) (hacc : ∀ i, Acc P i) : ∀ i, Acc P' i := fun i => by
 have := hacc i
 induction this with
 | intro i _ ih => exact ⟨i, fun j hj => ih j (hP j i hj)⟩
theorem enter_inv (h : DInv d) (hi : (nd d i).kind = 2) (hk : has d k) (hkl : (nd d k).kind = 2 -> links d k = 0) (hp : putErr (nd d i).ents name = 0) (hno : (nd d k).kind = 2 -> ¬ Above d k i) : DInv (enterTo d i name k) := by
 have hh := setE_pos h hi
 obtain ⟨hok, hhas⟩ := putErr_zero.1 hp
 refine h.ents hi ((h.node i).rising.put name k) (fun e he => ?_) (fun e he => ?_) (fun j hj => ?_) ?_
 ·rcases (mem_entPut hhas e).1 he with h1 | h1
  ·exact (h.node i).names e h1
  ·subst h1; exact hok
 ·rcases (mem_entPut hhas e).1 he with h1 | h1
  ·exact h.tgt i e h1
  ·subst h1; exact ⟨hk, enter_ne h hkl⟩
 ·have := enter_links (k := k) hh hp j
  have hs := h.single j hj
  unfold enterTo at this
  split at this
  ·next e => subst e; have := hkl hj; omega
  ·omega
 ·by_cases h2 : (nd d k).kind = 2
  ·exact acc_reparent (fun j x hx => enter_par hh hp hkl hx) h.acyc (hno h2)
  ·refine acc_mono (fun j x hx => ?_) h.acyc
   have hx' := enter_par hh hp hkl hx
   rcases hx' with h3 | ⟨h3, _⟩
   ·exact h3.2
   ·subst h3
    have := hx.1
    rw [kind_setE hh] at this
    exact absurd this h2
theorem IsDisk.enter {R R' : RD} {w w' : World} {a : Nat} {room : Int} {lk up : Int -> Int} (hC : Casc R w a d room lk up zp) (hcl : NoGarb d) (hi : (nd d i).kind = 2) (hk : has d k) (hkl : (nd d k).kind = 2 -> links d k = 0)
 (hp : putErr (nd d i).ents name = 0) (hno : (nd d k).kind = 2 -> ¬ Above d k i)
 (rep : Rep R' w' a (enterTo d i name k) room (used (enterTo d i name k)) (setAt lk k (lk k + 1)) (if (nd d k).kind = 2 then setAt up k i else up))
 (hs : smallD (enterTo d i name k)) (hf : (used (enterTo d i name k) : Int) <= room) (hm : room <= 9223372036854775807) : IsDisk R' w' a (enterTo d i name k) room := by
 have hh := setE_pos hC.inv hi
 have hhas : ∀ j, has (enterTo d i name k) j ↔ has d j := has_setE hh _
 have hl := fun j => enter_links (k := k) hh hp j
 have hck := hC.cnt k hk
 refine ⟨⟨_, _, rep, enter_inv hC.inv hi hk hkl hp hno, fun j hj => ?_, fun j hj => absurd hj (by unfold zp; omega), fun j hj => ?_, hs, fun j hj => ?_⟩, fun j hj => ?_, hf, hm⟩
 ·have h1 := hC.cnt j ((hhas j).1 hj)
  rw [hl j]
  by_cases e : j = k
  ·subst e; rw [setAt_same, if_pos rfl]; omega
  ·rw [setAt_other e, if_neg (fun h => e h.symm)]; omega
 ·have hj' := (hhas j).1 hj
  obtain ⟨u1, u2, u3⟩ := hC.upok j hj'
  by_cases e : j = k
  ·subst e
   rw [setAt_same]
   refine ⟨fun x hx => ?_, fun e1 => absurd e1 (enter_ne hC.inv hkl), fun e0 => ?_⟩
   ·have hk2 := hx.1
    unfold enterTo at hk2
    rw [kind_setE hh] at hk2
    rw [if_pos hk2, setAt_same]
    rcases enter_par hh hp hkl hx with ⟨h1, _⟩ | ⟨_, h2⟩
    ·exact absurd rfl h1
    ·exact h2.symm
   ·omega
  ·rw [setAt_other e]
   have : (if (nd d k).kind = 2 then setAt up k i else up) j = up j := by
    split
    ·exact setAt_other e
    ·rfl
   rw [this]
   refine ⟨fun x hx => ?_, u2, u3⟩
   rcases enter_par hh hp hkl hx with ⟨_, h1⟩ | ⟨h1, _⟩
   ·exact u1 x h1
   ·exact absurd h1 e
 ·have h1 := hC.lkb j ((hhas j).1 hj)
  have h2 := links_le d k
  have h3 := hC.small
  unfold smallD at h3
  unfold setAt
  split
  ·unfold zp at hck; omega
  ·exact h1
 ·obtain ⟨g1, g2, g3⟩ := hj
  rw [hl j] at g2
  rw [show (nd (enterTo d i name k) j).holds = (nd d j).holds from holds_setE hh _ j] at g3
  exact hcl j ⟨(hhas j).1 g1, by omega, g3⟩
end enter
section leave
variable {i k : Int} {name : ByteArray}
theorem drop_links (h : DInv d) (hi : has d i) (hg : entGet (nd d i).ents name = some k) (j : Int) : links d j = links (dropTo d i name) j + if k = j then 1 else 0 := by
 have := links_setE hi (entDel (nd d i).ents name) j
 have := nms_del (h.node i).rising hg j
 unfold dropTo
 omega
theorem drop_mass (h : DInv d) (hi : has d i) (hg : entGet (nd d i).ents name = some k) : mass d = mass (dropTo d i name) + 1 := by
 have := mass_setE hi (entDel (nd d i).ents name)
 have := len_del (h.node i).rising hg
 unfold dropTo
 omega
theorem drop_par (hi : has d i) {j x : Int} (h : Par (dropTo d i name) j x) : Par d j x := by
 obtain ⟨h1, e, h2, h3⟩ := h
 unfold dropTo at h1 h2
 rw [kind_setE hi] at h1
 rw [ents_setE hi] at h2
 split at h2
 ·next hj => subst hj; exact ⟨h1, e, (mem_entDel.1 h2).1, h3⟩
 ·exact ⟨h1, e, h2, h3⟩
theorem drop_inv (h : DInv d) (hi : (nd d i).kind = 2) (hg : entGet (nd d i).ents name = some k) : DInv (dropTo d i name) := by
 have hh := setE_pos h hi
 refine h.ents hi ((h.node i).rising.del name) (fun e he => (h.node i).names e (mem_entDel.1 he).1) (fun e he => h.tgt i e (mem_entDel.1 he).1) (fun j hj => ?_) (acc_mono (fun j x hx => drop_par hh hx) h.acyc)
 have := drop_links h hh hg j
 have := h.single j hj
 unfold dropTo at *
 omega
def onePend (k : Int) : Int -> Nat := fun j => if j = k then 1 else 0
theorem Casc.drop {R R' : RD} {w w' : World} {a : Nat} {room : Int} {lk up : Int -> Int} (hC : Casc R w a d room lk up zp) (hcl : NoGarb d) (hi : (nd d i).kind = 2) (hg : entGet (nd d i).ents name = some k)
 (rep : Rep R' w' a (dropTo d i name) room (used (dropTo d i name)) lk up) : Casc R' w' a (dropTo d i name) room lk up (onePend k) ∧ ∀ j, ¬ PG (dropTo d i name) (onePend k) j := by
 have hh := setE_pos hC.inv hi
 have hhas : ∀ j, has (dropTo d i name) j ↔ has d j := has_setE hh _
 have hl := fun j => drop_links (k := k) hC.inv hh hg j
 have hm := drop_mass hC.inv hh hg
 refine ⟨⟨rep, drop_inv hC.inv hi hg, fun j hj => ?_, fun j hj => ?_, fun j hj => ?_, ?_, fun j hj => hC.lkb j ((hhas j).1 hj)⟩, fun j hj => ?_⟩
 ·have h1 := hC.cnt j ((hhas j).1 hj)
  have h2 := hl j
  unfold zp at h1
  unfold onePend
  by_cases e : k = j
  ·subst e; rw [if_pos rfl] at h2 ⊢; omega
  ·rw [if_neg e] at h2; rw [if_neg (fun h => e h.symm)]; omega
 ·unfold onePend at hj
  split at hj
  ·next e => subst e; exact (hhas j).2 (hC.inv.tgt i _ (entGet_mem hg)).1
  ·omega
 ·obtain ⟨u1, u2, u3⟩ := hC.upok j ((hhas j).1 hj)
  exact ⟨fun x hx => u1 x (drop_par hh hx), u2, u3⟩
 ·have := hC.small
  unfold smallD at *
  omega
 ·obtain ⟨g1, g2, g3, g4⟩ := hj
  have h2 := hl j
  rw [show (nd (dropTo d i name) j).holds = (nd d j).holds from holds_setE hh _ j] at g4
  unfold onePend at g3
  refine hcl j ⟨(hhas j).1 g1, ?_, g4⟩
  rw [h2, g2]
  split
  ·next e => subst e; rw [if_pos rfl] at g3; cases g3
  ·rfl
end leave
end
set_option maxRecDepth 100000
set_option maxHeartbeats 1000000
def enterErr (d : Nds) (room i : Int) (name : ByteArray) (k : Int) : Int :=
 if folderErr d i ≠ 0 then folderErr d i else if (nd d k).kind = 0 then 12 else if (nd d k).kind = 2 ∧ 0 < links d k then 22 else if 32768 <= links d k then 24
 else if putErr (nd d i).ents name ≠ 0 then putErr (nd d i).ents name else if room - used d < name.size then 20 else 0
def enterD (d : Nds) (room i : Int) (name : ByteArray) (k : Int) : Nds := if enterErr d room i name k = 0 then enterTo d i name k else d
section
variable {R : RD} {w : World} {a : Nat} {d : Nds} {room : Int} {lk up : Int -> Int}
theorem Rep.turnA {R1 : RD} {w1 w2 : World} {d' : Nds} {us : Int} (h : Rep R1 w1 a d' room us lk up) (hT : Turn R w R1 w1) (k : Keeps (fun x => x = a) w1 w2) : Turn R w R1 w2 :=
 hT.trans (Turn.of (k.mono (fun x _ hx => by subst hx; exact h.fA)))
theorem enter_facts {i k : Int} {name : ByteArray} {w1 : World} (hC : Casc R w a d room lk up zp) (hcl : NoGarb d) (hmax : room <= 9223372036854775807) (hi : (nd d i).kind = 2) (hk : has d k) (hkl : (nd d k).kind = 2 -> links d k = 0)
 (hp : putErr (nd d i).ents name = 0) (hno : (nd d k).kind = 2 -> ¬ Above d k i) (hb : mass d + 1 <= 2147483648) (hfit : (used d : Int) + name.size <= room) (hsz : name.size <= 4294967296) (ht : DTo w w1 ⟨R.g i, 5, none⟩ (R.ev i) (putTo (nd d i).ents name k)) :
 Calls Tryz.prog 105 #[.pointer (some ⟨a, 0, none⟩), .int .i64 name.size] w1 fun e w2 => e = .returned (.bool true) ∧ w2.cell? ⟨R.g k, 0, none⟩ = some (.int .i64 (nd d k).kind) ∧ w2.cell? ⟨R.g k, 2, none⟩ = some (.int .i64 (links d k)) ∧ w2.cell? ⟨R.g k, 6, none⟩ = some (.int .i64 (up k)) ∧
  w2.frozen? ⟨R.g k, 2, none⟩ = false ∧ w2.frozen? ⟨R.g k, 6, none⟩ = false ∧
  DiskTo R w a (enterTo d i name k) room (if (nd d k).kind = 2 then (w2.setCell ⟨R.g k, 2, none⟩ (.int .i64 ((links d k : Int) + 1))).setCell ⟨R.g k, 6, none⟩ (.int .i64 i) else w2.setCell ⟨R.g k, 2, none⟩ (.int .i64 ((links d k : Int) + 1))) := by
 have hh := setE_pos hC.inv hi
 have hcnt := hC.cnt k hk
 have hlk : lk k = links d k := by rw [hcnt]; unfold zp; rfl
 rw [<- hlk]
 rw [show putTo (nd d i).ents name k = entPut (nd d i).ents name k from if_pos hp] at ht
 obtain ⟨R1, hR1, hT1, hg1, hb1⟩ := hC.rep.setDir hh ht
 have hR1 : Rep R1 w1 a (enterTo d i name k) room (used d) lk up := hR1
 have hul := used_le2 hC.inv hC.small
 refine (take_any hR1 name.size (by omega) (by omega) hmax (by omega) (by omega)).mono fun e w2 ⟨h1, h2, h3⟩ => ?_
 rw [show (decide ((name.size : Int) <= room - used d)) = true from decide_eq_true (by omega)] at h1
 rw [show takeU room (used d) name.size = used d + name.size from if_pos (by omega)] at h2
 have hk1 : has (enterTo d i name k) k := (has_setE hh _ k).2 hk
 have hn := h2.node k hk1
 rw [hg1] at hn
 have hkind : (nd (enterTo d i name k) k).kind = (nd d k).kind := kind_setE hh _ k
 refine ⟨h1, by rw [hn.kind, hkind], hn.links, hn.up, hn.fz 2, hn.fz 6, ?_⟩
 have hT2 := hR1.turnA hT1 h3
 have hu := enter_used (k := k) hh hp
 have hR3 := h2.setLinks hk1 (lk k + 1)
 have hsm : smallD (enterTo d i name k) := by unfold smallD; rw [enter_mass hh hp]; omega
 have k1 : Keeps R1.F w2 (w2.setCell ⟨R1.g k, 2, none⟩ (.int .i64 (lk k + 1))) := (Keeps.refl _ _).setCell (.inl (h2.fN hk1)) _
 rw [<- hg1]
 by_cases hk2 : (nd d k).kind = 2
 ·rw [if_pos hk2]
  have hR4 := hR3.setUp hk1 i
  refine ⟨R1, IsDisk.enter hC hcl hi hk hkl hp hno ?_ hsm (by rw [hu]; omega) hmax, hT2.trans (Turn.of (k1.setCell (.inl (hR3.fN hk1)) _))⟩
  rw [if_pos hk2, hu]
  exact_mod_cast hR4
 ·rw [if_neg hk2]
  refine ⟨R1, IsDisk.enter hC hcl hi hk hkl hp hno ?_ hsm (by rw [hu]; omega) hmax, hT2.trans (Turn.of k1)⟩
  rw [if_neg hk2, hu]
  exact_mod_cast hR3
theorem enter_back {i k : Int} {name : ByteArray} {w1 : World} (hC : Casc R w a d room lk up zp) (hcl : NoGarb d) (hfit0 : (used d : Int) <= room) (hmax : room <= 9223372036854775807) (hi : (nd d i).kind = 2)
 (hp : putErr (nd d i).ents name = 0) (hfit : room - used d < name.size) (hsz : name.size <= 4294967296) (ht : DTo w w1 ⟨R.g i, 5, none⟩ (R.ev i) (putTo (nd d i).ents name k)) :
 Calls Tryz.prog 105 #[.pointer (some ⟨a, 0, none⟩), .int .i64 name.size] w1 fun e w2 => e = .returned (.bool false) ∧
  Calls Tryz.prog 163 #[.pointer (some ⟨R.g i, 5, none⟩), .string name] w2 fun e w3 => e = .returned (.int .i64 0) ∧ DiskTo R w a d room w3 := by
 have hh := setE_pos hC.inv hi
 obtain ⟨hok, hhas⟩ := putErr_zero.1 hp
 rw [show putTo (nd d i).ents name k = entPut (nd d i).ents name k from if_pos hp] at ht
 obtain ⟨R1, hR1, hT1, hg1, hb1⟩ := hC.rep.setDir hh ht
 have hR1 : Rep R1 w1 a (enterTo d i name k) room (used d) lk up := hR1
 have hul := used_le2 hC.inv hC.small
 refine (take_any hR1 name.size (by omega) (by omega) hmax (by omega) (by omega)).mono fun e w2 ⟨h1, h2, h3⟩ => ?_
 rw [show (decide ((name.size : Int) <= room - used d)) = false from decide_eq_false (by omega)] at h1
 rw [show takeU room (used d) name.size = used d from if_neg (by omega)] at h2
 have hi1 : has (enterTo d i name k) i := (has_setE hh _ i).2 hh
 have hents : (nd (enterTo d i name k) i).ents = entPut (nd d i).ents name k := by unfold enterTo; rw [ents_setE hh, if_pos rfl]
 have hn := (h2.node i hi1).dir
 have hlen := nd_ents_len hC.small i
 have hl2 := len_put (k := k) hhas
 rw [hg1, hents] at hn
 have hlen2 : (nd d i).ents.length <= 2147483648 := by
  have h1 := sumBy_ge mass1 (has_range hh).1 (has_range hh).2
  have := hC.small
  unfold smallD mass at this
  unfold mass1 at h1
  unfold mass1 at this
  omega
 refine ⟨h1, (drop_d w2 ⟨R.g i, 5, none⟩ (R1.ev i) _ name hn (by omega)).mono fun e w3 ⟨h4, h5⟩ => ?_⟩
 have hput : entHas (entPut (nd d i).ents name k) name = true := by rw [entHas_put hhas]; simp
 rw [show hasErr (entPut (nd d i).ents name k) name = 0 by unfold hasErr; rw [if_pos hput]] at h4
 rw [entDel_put (hC.inv.node i).rising hhas] at h5
 rw [<- hg1] at h5
 obtain ⟨R3, hR3, hT3, _, _⟩ := h2.setDir hi1 h5
 have hd : upd (enterTo d i name k) i ((nd (enterTo d i name k) i).setEnts (nd d i).ents) = d := by
  show setE (setE d i (entPut (nd d i).ents name k)) i (nd d i).ents = d
  rw [setE_setE hh, setE_self hh]
 rw [hd] at hR3
 exact ⟨h4, R3, ⟨⟨lk, up, hC.re hR3⟩, hcl, hfit0, hmax⟩, (hR1.turnA hT1 h3).trans hT3⟩
theorem enter_same {i k : Int} {name : ByteArray} {w1 : World} (hC : Casc R w a d room lk up zp) (hcl : NoGarb d) (hfit0 : (used d : Int) <= room) (hmax : room <= 9223372036854775807) (hi : (nd d i).kind = 2)
 (hp : putErr (nd d i).ents name ≠ 0) (ht : DTo w w1 ⟨R.g i, 5, none⟩ (R.ev i) (putTo (nd d i).ents name k)) : DiskTo R w a d room w1 := by
 have hh := setE_pos hC.inv hi
 rw [show putTo (nd d i).ents name k = (nd d i).ents from if_neg hp] at ht
 obtain ⟨R1, hR1, hT1, hg1, hb1⟩ := hC.rep.setDir hh ht
 rw [show upd d i ((nd d i).setEnts (nd d i).ents) = d from setE_self hh] at hR1
 exact ⟨R1, ⟨⟨lk, up, hC.re hR1⟩, hcl, hfit0, hmax⟩, hT1⟩
theorem enterD_any (h : IsDisk R w a d room) (i : Int) (name : ByteArray) (k : Int) (hsz : name.size <= 4294967296) (hb : mass d + 1 <= 2147483648) (hno : folderErr d i = 0 -> (nd d k).kind = 2 -> ¬ Above d k i) :
 Calls Tryz.prog 101 #[.pointer (some ⟨a, 0, none⟩), .int .i64 i, .string name, .int .i64 k] w fun e w' => e = .returned (.int .i64 (enterErr d room i name k)) ∧ DiskTo R w a (enterD d room i name k) room w' := by
 have H := Lib.hid h
 obtain ⟨⟨lk, up, hC⟩, hcl, hfit, hmax⟩ := h
 have hf := folder_any hC.rep i
 unfold enterD
 by_cases c0 : folderErr d i = 0
 case neg =>
  have e : enterErr d room i name k = folderErr d i := if_pos c0
  rw [e, if_neg c0]
  have hp : ptrIf R (folderErr d i) i = .pointer none := if_neg c0
  rw [hp] at hf
  clear hC hcl hfit hmax e
  generalize folderErr d i = er at *
  go_enter Tryz.func101, Tryz.ntmps101
  go_wp2_with (go_at_call 161; refine hf.mono ?_; rintro e w1 ⟨rfl, rfl⟩)
  go_ret
  exact ⟨rfl, H.out.same (Keeps.refl _ _)⟩
 case pos =>
 obtain ⟨hi, hk1⟩ := folderErr_zero c0
 rw [c0] at hf
 have hp : ptrIf R 0 i = .pointer (some ⟨R.g i, 0, none⟩) := rfl
 rw [hp] at hf
 have hl := hC.rep.l
 have hlook := hC.rep.look k
 unfold nodeV at hlook
 have hE0 : ∀ (P : Int -> Prop), P (if (nd d k).kind = 0 then 12 else if (nd d k).kind = 2 ∧ 0 < links d k then 22 else if 32768 <= links d k then 24
  else if putErr (nd d i).ents name ≠ 0 then putErr (nd d i).ents name else if room - used d < name.size then 20 else 0) -> P (enterErr d room i name k) := fun P hP => by
  unfold enterErr; rw [if_neg (by simpa using c0)]; exact hP
 by_cases hk : has d k
 case neg =>
  rw [if_neg hk] at hlook
  have e : enterErr d room i name k = 12 := hE0 (fun x => x = 12) (if_pos (not_has hk))
  rw [e, if_neg (by decide)]
  clear hC hcl hfit hmax e hE0
  go_enter Tryz.func101, Tryz.ntmps101
  go_wp2_with (go_at_call 161; refine hf.mono ?_; rintro e w1 ⟨rfl, rfl⟩)
  go_ret
  exact ⟨rfl, H.out.same (Keeps.refl _ _)⟩
 case pos =>
 rw [if_pos hk] at hlook
 have hk0 : ¬ (nd d k).kind = 0 := hk
 have hE1 : ∀ (P : Int -> Prop), P (if (nd d k).kind = 2 ∧ 0 < links d k then 22 else if 32768 <= links d k then 24
  else if putErr (nd d i).ents name ≠ 0 then putErr (nd d i).ents name else if room - used d < name.size then 20 else 0) -> P (enterErr d room i name k) := fun P hP => hE0 P (by rw [if_neg hk0]; exact hP)
 have hn := hC.rep.node k hk
 have c1 := hn.kind
 have c2 := hn.links
 have hcnt := hC.cnt k hk
 have hlk : lk k = links d k := by rw [hcnt]; unfold zp; rfl
 rw [hlk] at c2
 by_cases d1 : (nd d k).kind = 2 ∧ 0 < links d k
 ·have e : enterErr d room i name k = 22 := hE1 (fun x => x = 22) (if_pos d1)
  rw [e, if_neg (by decide)]
  obtain ⟨d2, d3⟩ := d1
  rw [d2] at c1
  have d3' : (0 : Int) < (links d k : Int) := by omega
  clear hC hcl hfit hmax e hE0 hE1 hn hcnt hlk hk0 hno d2 d3
  generalize (links d k : Int) = lks at *
  go_enter Tryz.func101, Tryz.ntmps101
  go_wp2_with (go_at_call 161; refine hf.mono ?_; rintro e w1 ⟨rfl, rfl⟩)
  go_ret
  exact ⟨rfl, H.out.same (Keeps.refl _ _)⟩
 have hE2 : ∀ (P : Int -> Prop), P (if 32768 <= links d k then 24
  else if putErr (nd d i).ents name ≠ 0 then putErr (nd d i).ents name else if room - used d < name.size then 20 else 0) -> P (enterErr d room i name k) := fun P hP => hE1 P (by rw [if_neg d1]; exact hP)
 have d1' : (nd d k).kind ≠ 2 ∨ ((nd d k).kind = 2 ∧ (links d k : Int) = 0) := by
  by_cases e2 : (nd d k).kind = 2
  ·exact .inr ⟨e2, by have := Nat.eq_zero_of_not_pos (fun h => d1 ⟨e2, h⟩); omega⟩
  ·exact .inl e2
 have hlen := nd_ents_len hC.small i
 have hdir := (hC.rep.node i hi).dir
 have hput := Lib.hid (put_d w ⟨R.g i, 5, none⟩ (R.ev i) (nd d i).ents name k hdir (by omega))
 by_cases d2 : 32768 <= links d k
 ·have e : enterErr d room i name k = 24 := hE2 (fun x => x = 24) (if_pos d2)
  rw [e, if_neg (by decide)]
  have d2' : (links d k : Int) ≥ 32768 := by omega
  have d3 : (nd d k).kind ≠ 2 := d1'.elim id (fun h => by have := h.2; omega)
  clear hC hcl hfit hmax e hE0 hE1 hE2 hn hcnt hlk hk0 hno d1 d1' d2 hput hdir hlen
  generalize (links d k : Int) = lks at *
  go_enter Tryz.func101, Tryz.ntmps101
  go_wp2_with (go_at_call 161; refine hf.mono ?_; rintro e w1 ⟨rfl, rfl⟩)
  go_ret
  exact ⟨rfl, H.out.same (Keeps.refl _ _)⟩
 have hE3 : ∀ (P : Int -> Prop), P (if putErr (nd d i).ents name ≠ 0 then putErr (nd d i).ents name else if room - used d < name.size then 20 else 0) -> P (enterErr d room i name k) := fun P hP => hE2 P (by rw [if_neg d2]; exact hP)
 have d2' : ¬ (32768 <= (links d k : Int)) := by omega
 have d2'' : (32768 <= (links d k : Int)) = False := by simp; omega
 by_cases d3 : putErr (nd d i).ents name = 0
 case neg =>
  have e : enterErr d room i name k = putErr (nd d i).ents name := hE3 (fun x => x = putErr (nd d i).ents name) (if_pos d3)
  rw [e, if_neg d3]
  have HP := Lib.hid (fun (w1 : World) => enter_same (w1 := w1) (k := k) hC hcl hfit hmax hk1 d3)
  clear hC hcl hfit hmax e hE0 hE1 hE2 hE3 hn hcnt hlk hk0 hno d1 d2 hdir hlen
  generalize putErr (nd d i).ents name = pe at *
  generalize (links d k : Int) = lks at *
  rcases d1' with d4 | ⟨d4, d5⟩
  case' inl => generalize (nd d k).kind = kd at *
  case' inr => rw [d4] at c1; subst d5
  all_goals
   go_enter Tryz.func101, Tryz.ntmps101
   go_wp2_with (first | (go_at_call 161; refine hf.mono ?_; rintro e w1 ⟨rfl, rfl⟩) | (go_at_call 162; refine hput.out.mono ?_; rintro e w1 ⟨rfl, ht⟩))
   go_ret
   exact ⟨rfl, HP.out w1 ht⟩
 case pos =>
 have hE4 : ∀ (P : Int -> Prop), P (if room - used d < name.size then 20 else 0) -> P (enterErr d room i name k) := fun P hP => hE3 P (by rw [if_neg (by simpa using d3)]; exact hP)
 rw [d3] at hput
 have hkl : (nd d k).kind = 2 -> links d k = 0 := fun e => d1'.elim (fun h => absurd e h) (fun h => by have := h.2; omega)
 by_cases d4 : room - used d < name.size
 ·have e : enterErr d room i name k = 20 := hE4 (fun x => x = 20) (if_pos d4)
  rw [e, if_neg (by decide)]
  have HP := Lib.hid (fun (w1 : World) => enter_back (w1 := w1) (k := k) hC hcl hfit hmax hk1 d3 d4 hsz)
  clear hC hcl hfit hmax e hE0 hE1 hE2 hE3 hE4 hn hcnt hlk hk0 hno d1 d2 hdir hlen hkl d4 d3
  generalize (links d k : Int) = lks at *
  rcases d1' with d4 | ⟨d4, d5⟩
  case' inl => generalize (nd d k).kind = kd at *
  case' inr => rw [d4] at c1; subst d5
  all_goals
   go_enter Tryz.func101, Tryz.ntmps101
   go_wp2_with (first | (go_at_call 161; refine hf.mono ?_; rintro e w1 ⟨rfl, rfl⟩) | (go_at_call 162; refine hput.out.mono ?_; rintro e w1 ⟨rfl, ht⟩) | (go_at_call 105; refine (HP.out _ ht).mono ?_; rintro e w2 ⟨rfl, hdr⟩) | (go_at_call 163; refine hdr.mono ?_; rintro e w3 ⟨rfl, hend⟩))
   go_ret
   exact ⟨rfl, hend⟩
 ·have e : enterErr d room i name k = 0 := hE4 (fun x => x = 0) (if_neg d4)
  rw [e, if_pos rfl]
  have HP := Lib.hid (fun (w1 : World) => enter_facts (w1 := w1) hC hcl hmax hk1 hk hkl d3 (hno c0) hb (by omega) hsz)
  clear hC hcl hfit hmax e hE0 hE1 hE2 hE3 hE4 hn hcnt hlk hk0 hno d1 d2 hdir hlen hkl d4 d3 hb
  have hwr : wrap64 ((links d k : Int) + 1) = (links d k : Int) + 1 := IntWalk.wrap64_in _ (by omega)
  generalize (links d k : Int) = lks at *
  rcases d1' with d4 | ⟨d4, d5⟩
  case' inl => generalize (nd d k).kind = kd at *
  case' inr => rw [d4] at c1 HP; subst d5
  all_goals
   go_enter Tryz.func101, Tryz.ntmps101
   go_wp2_with (first | (go_at_call 161; refine hf.mono ?_; rintro e w1 ⟨rfl, rfl⟩) | (go_at_call 162; refine hput.out.mono ?_; rintro e w1 ⟨rfl, ht⟩) | (go_at_call 105; refine (HP.out _ ht).mono ?_; rintro e w2 ⟨rfl, f0, f2, f6, z2, z6, hend⟩; have HEn := Lib.hid hend; clear hend))
   go_ret
   refine ⟨rfl, ?_⟩
   have hz := HEn.out
   first | (rw [if_neg d4] at hz; exact hz) | (rw [if_pos trivial] at hz; exact hz)
end
theorem AboveR.trans {P : Int -> Int -> Prop} {a b c : Int} (h : AboveR P a b) (k : AboveR P b c) : AboveR P a c := by
 induction k with
 | self => exact h
 | step hp _ ih => exact .step hp ih
theorem Par.dir {d : Nds} (h : DInv d) {j i : Int} (hp : Par d j i) : (nd d j).kind = 2 := by
 obtain ⟨_, e, he, _⟩ := hp
 refine Classical.byContradiction fun hk => ?_
 rw [(h.node j).flat hk] at he; cases he
end Go.Proofs.YtnaenhekjdmlaaaGreatDoor
namespace Go.Proofs.YtnaenhekjdmlaaaGreatDoor
open Go Go.Shelf Go.RowKit
def lays221_ren : Go.Shelf.Ren :=
{
 f := fun x =>
   match x with
   | 221 => 206
   | 268 => 244
   | 138 => 82
   | 143 => 142
   | 195 => 140
   | 197 => 269
   | 218 => 141
   | 219 => 195
   | 260 => 280
   | 217 => 138
   | 225 => 235
   | 224 => 236
   | 267 => 237
   | 266 => 193
   | 314 => 262
   | n => n,
 t := fun x =>
   match x with
   | 9 => 9
   | 3 => 3
   | 31 => 29
   | 4 => 4
   | 0 => 0
   | 105 => 287
   | 21 => 21
   | 5 => 5
   | 46 => 235
   | 119 => 230
   | 139 => 331
   | 138 => 330
   | 146 => 293
   | 51 => 41
   | n => n,
 g := fun x =>
   match x with
   | 1 => 0
   | 3 => 8
   | 4 => 9
   | n => n }
theorem lays221 : Lays.n221 Tryz.prog lays221_ren :=
{ mixed := Eq.refl true, f138 := Eq.trans Tryz.func82 (congrArg some (Eq.refl (Body.n138 lays221_ren))),
  f143 := Eq.trans Tryz.func142 (congrArg some (Eq.refl (Body.n143 lays221_ren))),
  f195 := Eq.trans Tryz.func140 (congrArg some (Eq.refl (Body.n195 lays221_ren))),
  f197 := Eq.trans Tryz.func269 (congrArg some (Eq.refl (Body.n197 lays221_ren))),
  f217 := Eq.trans Tryz.func138 (congrArg some (Eq.refl (Body.n217 lays221_ren))),
  f218 := Eq.trans Tryz.func141 (congrArg some (Eq.refl (Body.n218 lays221_ren))),
  f219 := Eq.trans Tryz.func195 (congrArg some (Eq.refl (Body.n219 lays221_ren))),
  f221 := Eq.trans Tryz.func206 (congrArg some (Eq.refl (Body.n221 lays221_ren))),
  f224 := Eq.trans Tryz.func236 (congrArg some (Eq.refl (Body.n224 lays221_ren))),
  f225 := Eq.trans Tryz.func235 (congrArg some (Eq.refl (Body.n225 lays221_ren))),
  f260 := Eq.trans Tryz.func280 (congrArg some (Eq.refl (Body.n260 lays221_ren))),
  f266 := Eq.trans Tryz.func193 (congrArg some (Eq.refl (Body.n266 lays221_ren))),
  f267 := Eq.trans Tryz.func237 (congrArg some (Eq.refl (Body.n267 lays221_ren))),
  f268 := Eq.trans Tryz.func244 (congrArg some (Eq.refl (Body.n268 lays221_ren))),
  f314 := Eq.trans Tryz.func262 (congrArg some (Eq.refl (Body.n314 lays221_ren))), t0 := Tryz.underlying0,
  a0 := Tryz.isAgg0, z0 := Tryz.sizeOf0, v0 := Tryz.zeroValue0, t3 := Tryz.underlying3, a3 := Tryz.isAgg3,
  z3 := Tryz.sizeOf3, v3 := Tryz.zeroValue3, t4 := Tryz.underlying4, a4 := Tryz.isAgg4, z4 := Tryz.sizeOf4,
  v4 := Tryz.zeroValue4, t5 := Tryz.underlying5, a5 := Tryz.isAgg5, z5 := Tryz.sizeOf5, v5 := Tryz.zeroValue5,
  t9 := Tryz.underlying9, a9 := Tryz.isAgg9, z9 := Tryz.sizeOf9, v9 := Tryz.zeroValue9, t21 := Tryz.underlying21,
  a21 := Tryz.isAgg21, z21 := Tryz.sizeOf21, v21 := Tryz.zeroValue21, t31 := Tryz.underlying29, a31 := Tryz.isAgg29,
  z31 := Tryz.sizeOf29, v31 := Tryz.zeroValue29, t46 := Tryz.underlying235, a46 := Tryz.isAgg235, z46 := Tryz.sizeOf235,
  v46 := Tryz.zeroValue235, t51 := Tryz.underlying41, a51 := Tryz.isAgg41, z51 := Tryz.sizeOf41,
  v51 := Tryz.zeroValue41, t105 := Tryz.underlying287, a105 := Tryz.isAgg287, z105 := Tryz.sizeOf287,
  v105 := Tryz.zeroValue287, t119 := Tryz.underlying230, a119 := Tryz.isAgg230, z119 := Tryz.sizeOf230,
  t138 := Tryz.underlying330, a138 := Tryz.isAgg330, z138 := Tryz.sizeOf330, v138 := Tryz.zeroValue330,
  t139 := Tryz.underlying331, a139 := Tryz.isAgg331, z139 := Tryz.sizeOf331, v139 := Tryz.zeroValue331,
  t146 := Tryz.underlying293, a146 := Tryz.isAgg293, z146 := Tryz.sizeOf293, v146 := Tryz.zeroValue293,
  g1 := by kernel_rfl, g3 := by kernel_rfl,
  g4 := by kernel_rfl }
end Go.Proofs.YtnaenhekjdmlaaaGreatDoor
namespace Go.Proofs.YtnaenhekjdmlaaaGreatDoor
open Go Go.RowKit
theorem tStr : ElemT Tryz.prog encStr 29 9 ByteArray.empty 16 :=
 .of (.string ByteArray.empty) Tryz.underlying29 (by kernel_rfl) rfl
theorem isEmpty_eq (x : ByteArray) : x.toList.isEmpty = decide (x = ⟨#[]⟩) := by
 rw [Lib.toList_data, Bool.eq_iff_iff, List.isEmpty_iff, decide_eq_true_eq]
 exact ⟨fun h => eq_of_data (by rw [h]), fun h => by rw [h]⟩
theorem notEmpty_eq {x : ByteArray} (h : ¬ x = ⟨#[]⟩) : (!x.toList.isEmpty) = true := by rw [isEmpty_eq]; simpa using h
set_option maxHeartbeats 1000000 in
theorem slIndex1 (s : ByteArray) (w : World) :
 Calls Tryz.prog 195 #[.string s, .string slashB] w fun e w' => e = .returned (.int .i64 (bIdx s 47)) ∧ w' = w := by
 go_enter Tryz.func195, Tryz.ntmps195
 go_wp2
 ·go_ret
  refine ⟨ret_i64 ?_, rfl⟩
  have h : ([47] == s.toList) = true := by assumption
  rw [Lib.toList_data, beq_iff_eq] at h
  rw [bIdx, <- h]
  rfl
 ·rw [run_callFunc_extern Tryz.func193 (by kernel_rfl) (by kernel_rfl) (by kernel_rfl) (e := Extern.BytealgIndexByte.indexByte) (by kernel_rfl), run_indexByte_string]
  simp only [Result.andThen, Lib.firstIdx_eq]
  rw [Oper.upon_value]
  go_wp2
  go_ret
  exact ⟨rfl, rfl⟩
set_option maxHeartbeats 400000 in
theorem strIndex1 (s : ByteArray) (w : World) :
 Calls Tryz.prog 142 #[.string s, .string slashB] w fun e w' => e = .returned (.int .i64 (bIdx s 47)) ∧ w' = w := by
 go_enter Tryz.func142, Tryz.ntmps142
 go_wp2_with (go_at_call 195; refine (slIndex1 _ _).mono ?_; rintro e w' ⟨rfl, rfl⟩)
 go_ret
 exact ⟨rfl, rfl⟩
theorem bIdx_some {s : ByteArray} {c : UInt8} {o : Nat} (h : bIdx s c = o) : ∃ ho : o < s.size, s[o] = c ∧ ∀ (j : Nat) (hj : j < s.size), j < o -> ¬ s[j] = c := by
 obtain ⟨h1, h2⟩ := Lib.indexByte_some h
 obtain ⟨h3, h4⟩ := List.getElem?_eq_some_iff.1 h1
 rw [len_data] at h3
 exact ⟨h3, h4, fun j hj hlt e => h2 j hlt (by rw [List.getElem?_eq_getElem (by rw [len_data]; exact hj)]; exact congrArg some e)⟩
theorem indexB_slash (s : ByteArray) : Lib.indexB s slashB = bIdx s 47 := Lib.index_one _ _
theorem splitB_pcs : ∀ (k : Nat) (s : ByteArray), Lib.countB s slashB = k -> Lib.splitB slashB 0 k s = pcs s
 | 0, s, hk => by
   rw [Lib.splitB_zero]
   have := pcs_none s 0 (Nat.zero_le _) (fun j hj _ e => by
    have h1 : Lib.countB s slashB = s.data.toList.count 47 := Lib.count_one _ _
    rw [hk] at h1
    have := List.count_eq_zero.1 h1.symm
    exact this (List.mem_iff_getElem.2 ⟨j, by rw [len_data]; exact hj, e⟩))
   rw [extract_all] at this
   exact this.symm
 | k + 1, s, hk => by
   rcases Lib.indexB_cases s slashB with hix | ⟨i, hix, _⟩
   ·rw [Lib.countB_miss s slashB hix] at hk; omega
   ·rw [Lib.splitB_hit slashB 0 k s i hix]
    have h2 := Lib.countB_hit s slashB i (by decide) hix
    rw [splitB_pcs k _ (by omega)]
    rw [indexB_slash] at hix
    obtain ⟨ho, h3, h4⟩ := bIdx_some hix
    have := pcs_cut s 0 i (Nat.zero_le _) ho h3 (fun j hj _ h => h4 j hj h)
    rw [extract_all] at this
    rw [this]
    rfl
set_option maxHeartbeats 1000000 in
theorem split_any (s : ByteArray) (w : World) (hs : s.size < 4294967281) :
 Calls Tryz.prog 157 #[.string s, .string slashB] w fun e w' =>
  ∃ v, e = .returned v ∧ Own encStr 9 (fun g => w.heap.size <= g) w' v (pcs s) ∧ Keeps NoB w w' := by
 have hlen := Lib.splitB_all slashB (by decide) 0 _ s rfl
 have hle := Lib.countB_le slashB (by decide) s.size s (Nat.le_refl _)
 have c := Any.strings_genSplit_core lays221 (by kernel_rfl) s slashB 0 (-1) (Lib.countB s slashB + 1) w hs (by decide) (Nat.zero_le _)
  (fun x c hx => by
    refine (strIndex1 x _).mono ?_
    rintro e w' ⟨rfl, rfl⟩
    exact ⟨by rw [indexB_slash], rfl⟩)
  (by
    refine (Any.strings_Count_one { lays221 with } s 47 w).mono ?_
    rintro e w' ⟨rfl, rfl⟩
    refine ⟨?_, rfl⟩
    show Ending.returned (Value.int .i64 ((s.data.toList.count 47 : Nat) : Int)) = Ending.returned (Value.int .i64 ((Lib.count s.data.toList [47] : Nat) : Int))
    rw [Lib.count_one])
  (by decide) (by decide) (by rw [if_pos (by decide)]; omega)
 rw [Nat.add_sub_cancel, splitB_pcs _ s rfl] at c
 rw [splitB_pcs _ s rfl] at hlen
 rw [<- hlen, Lib.cellsOf_full] at c
 have C := Lib.hid c
 clear c
 have hpl : (pcs s).length <= maxLen := by rw [hlen]; unfold maxLen; omega
 have Hp := Lib.hid hpl
 clear hpl hlen hle
 go_enter Tryz.func157, Tryz.ntmps157
 go_wp2_with (go_at_call 206; refine C.out.mono ?_; rintro e w' ⟨rfl, rfl⟩)
 go_ret
 refine ⟨_, rfl, own_lit (pcs s) _ ?_ _ rfl (Nat.le_refl _) Hp.out, (Keeps.refl _ _).alloc _⟩
 rw [List.toList_toArray]
 generalize pcs s = l
 induction l with
 | nil => rfl
 | cons a l ih => rw [List.map_cons, List.flatMap_cons, ih]; rfl
theorem filter_snoc_yes {α : Type} (l : List α) (p : α -> Bool) (k : Nat) (x : α) (hx : l[k]? = some x) : (l.take (k + 1)).filter p = (l.take k).filter p ++ (if p x then [x] else []) := by
 rw [List.take_add_one, hx]
 simp [List.filter_append]
 split <;> simp_all
set_option maxHeartbeats 1000000 in
theorem parts_any (s : ByteArray) (w : World) (hs : s.size < 4294967281) :
 Calls Tryz.prog 94 #[.string s] w fun e w' =>
  ∃ v, e = .returned v ∧ Own encStr 9 (fun g => w.heap.size <= g) w' v (prts s) ∧ Keeps NoB w w' := by
 have hpl := pcs_length s
 have Hpl := Lib.hid hpl
 clear hpl
 have Hs := Lib.hid (split_any s)
 go_enter Tryz.func94, Tryz.ntmps94
 go_wp2_with (go_at_call 157; refine (Hs.out _ hs).mono ?_; rintro e w1 ⟨v1, rfl, ho1, hk1⟩; obtain ⟨p1, c1, rfl, hsl1⟩ := ho1.sl)
 have hpl := Hpl.out
 have hcap := hsl1.cap
 have hmax := hsl1.max
 unfold maxLen at hmax
 go_loopw [3, 9] (fun o i wr => ∃ k : Nat, k <= (pcs s).length ∧ i = .int .i64 k ∧ Own encStr 9 (fun g => w1.heap.size <= g) wr o ((pcs s).take k |>.filter fun p => !decide (p = ⟨#[]⟩)) ∧ Keeps NoB w1 wr) (fun _ i _ => (pcs s).length - (intOf i).toNat)
 case atStart => exact ⟨0, Nat.zero_le _, rfl, Own.nil _ _ _ _, Keeps.refl _ _⟩
 case round =>
  rename_i wr
  obtain ⟨k, hk, rfl, ho, hkp⟩ := hrel
  have Hkp := Lib.hid hkp
  have hsz := hkp.size
  clear hkp
  by_cases hlt : k < (pcs s).length
  ·obtain ⟨x, hx⟩ : ∃ x, (pcs s)[k]? = some x := ⟨_, List.getElem?_eq_getElem hlt⟩
   obtain ⟨g, off, rfl, hS, hg, c0⟩ := (hsl1.keepN Hkp.out).str hx
   have Hsn := Lib.hid (filter_snoc_yes (pcs s) (fun p => !decide (p = ⟨#[]⟩)) k x hx)
   have hfl : ((pcs s).take k |>.filter fun p => !decide (p = ⟨#[]⟩)).length <= k := Nat.le_trans (List.length_filter_le _ _) (by simp; omega)
   clear hx
   by_cases hp : x = ⟨#[]⟩
   ·have Hp := Lib.hid hp
    subst hp
    go_wp2
    go_roundw
    case rel => exact ⟨k + 1, by omega, by go_num, by rw [Hsn.out]; simpa using ho, Hkp.out⟩
    case measure => simp [intOf]; omega
   ·have hne := notEmpty_eq hp
    go_wp2_with (at_builtin; refine wpl_append rfl (.tmp 15) (.tmp 17) rfl tStr (ho.keep ((Keeps.refl NoB _).alloc _) (fun _ _ h => h)) (own_lit (S := fun _ => True) [x] #[.string x] rfl 1 rfl trivial (by decide)).sl rfl rfl (by simp; omega) (by simp [maxLen]; omega) (by simp; omega) ?_; intro v' w' ho' hk' hf')
    go_roundw
    case rel =>
     refine ⟨k + 1, by omega, by go_num, ?_, Hkp.out.alloc _ |>.step hk' (fun g hg => Or.inr (ho.2 g hg))⟩
     rw [Hsn.out, if_pos (by simpa using hp)]
     exact ho'
    case measure => simp [intOf]; omega
  ·go_wp2
   go_ret
   refine ⟨_, rfl, ?_, hk1.trans Hkp.out⟩
   rw [List.take_of_length_le (by omega)] at ho
   exact ho.mono (fun g _ hg => by have := hk1.size; omega)
theorem absB_raw (s : ByteArray) : (decide (1 <= s.size) && ((s.extract 0 1).toList == [47])) = absB s := by
 have := Lib.hasPrefix_raw s slashB
 rw [show slashB.toList = [47] from by rw [Lib.toList_data]] at this
 refine Eq.trans (show _ = (decide (slashB.size <= s.size) && ((s.extract 0 slashB.size).toList == [47])) from rfl) (this.trans ?_)
 unfold absB Lib.hasPrefix
 cases h : s.data.toList with
 | nil => rfl
 | cons c l =>
   rw [Bool.eq_iff_iff, decide_eq_true_eq, List.isPrefixOf_iff_prefix, List.getElem?_cons_zero]
   show [47] <+: c :: l ↔ _
   rw [List.cons_prefix_cons]
   exact ⟨fun h => congrArg some h.1.symm, fun h => ⟨(Option.some.inj h).symm, List.nil_prefix⟩⟩
theorem endS_raw (s : ByteArray) : (decide (1 <= s.size) && ((s.extract (s.size - 1) s.size).toList == [47])) = endS s := by
 have := Lib.hasSuffix_raw s slashB
 rw [show slashB.toList = [47] from by rw [Lib.toList_data]] at this
 refine Eq.trans (show _ = (decide (slashB.size <= s.size) && ((s.extract (s.size - slashB.size) s.size).toList == [47])) from rfl) (this.trans ?_)
 unfold endS Lib.hasSuffix
 rw [Bool.eq_iff_iff, decide_eq_true_eq, List.isSuffixOf_iff_suffix, <- len_data]
 show [47] <:+ _ ↔ _
 rcases List.eq_nil_or_concat s.data.toList with h | ⟨l, c, h⟩
 ·rw [h]
  exact ⟨fun h => absurd (List.IsSuffix.length_le h) (by decide), fun h => absurd h.1 (by decide)⟩
 ·rw [h, List.concat_eq_append, List.length_append, List.length_singleton, Nat.add_sub_cancel, List.getElem?_append_right (Nat.le_refl _), Nat.sub_self, List.getElem?_cons_zero]
  constructor
  ·rintro ⟨t, ht⟩
   have := List.append_inj_right' ht rfl
   exact ⟨by omega, congrArg some (List.head_eq_of_cons_eq this).symm⟩
  ·rintro ⟨_, h⟩
   rw [Option.some.inj h]
   exact ⟨l, rfl⟩
set_option maxHeartbeats 400000 in
theorem slhp1 (s : ByteArray) (w : World) :
 Calls Tryz.prog 198 #[.string s, .string slashB] w fun e w' => e = .returned (.bool (absB s)) ∧ w' = w := by
 go_enter Tryz.func198, Tryz.ntmps198
 have hr := absB_raw s
 have H := Lib.hid hr
 clear hr
 go_wp2
 all_goals
  go_ret
  refine ⟨ret_bool ?_, rfl⟩
  have h := H.out
  rcases Nat.lt_or_ge s.size 1 with h1 | h1
  ·rw [<- h, decide_eq_false (by omega)]; first | rfl | omega
  ·rw [<- h, decide_eq_true h1]; first | rfl | omega
set_option maxHeartbeats 400000 in
theorem hp1 (s : ByteArray) (w : World) :
 Calls Tryz.prog 156 #[.string s, .string slashB] w fun e w' => e = .returned (.bool (absB s)) ∧ w' = w := by
 go_enter Tryz.func156, Tryz.ntmps156
 go_wp2_with (go_at_call 198; refine (slhp1 _ _).mono ?_; rintro e w' ⟨rfl, rfl⟩)
 go_ret
 exact ⟨rfl, rfl⟩
set_option maxHeartbeats 400000 in
theorem abs_any (s : ByteArray) (w : World) :
 Calls Tryz.prog 93 #[.string s] w fun e w' => e = .returned (.bool (absB s)) ∧ w' = w := by
 go_enter Tryz.func93, Tryz.ntmps93
 go_wp2_with (go_at_call 156; refine (hp1 _ _).mono ?_; rintro e w' ⟨rfl, rfl⟩)
 go_ret
 exact ⟨rfl, rfl⟩
set_option maxHeartbeats 400000 in
theorem slhs1 (s : ByteArray) (w : World) (hs : s.size <= 4294967296) :
 Calls Tryz.prog 158 #[.string s, .string slashB] w fun e w' => e = .returned (.bool (endS s)) ∧ w' = w := by
 have hr := endS_raw s
 have H := Lib.hid hr
 clear hr
 go_enter Tryz.func158, Tryz.ntmps158
 go_wp2
 all_goals
  go_ret
  refine ⟨ret_bool ?_, rfl⟩
  have h := H.out
  rcases Nat.lt_or_ge s.size 1 with h1 | h1
  ·rw [<- h, decide_eq_false (by omega)]; first | rfl | omega
  ·rw [<- h, decide_eq_true h1]; first | rfl | omega
set_option maxHeartbeats 400000 in
theorem hs1 (s : ByteArray) (w : World) (hs : s.size <= 4294967296) :
 Calls Tryz.prog 95 #[.string s, .string slashB] w fun e w' => e = .returned (.bool (endS s)) ∧ w' = w := by
 go_enter Tryz.func95, Tryz.ntmps95
 go_wp2_with (go_at_call 158; refine (slhs1 _ _ hs).mono ?_; rintro e w' ⟨rfl, rfl⟩)
 go_ret
 exact ⟨rfl, rfl⟩
set_option maxHeartbeats 400000 in
theorem join_any (d n : ByteArray) (w : World) (hs : d.size <= 4294967296) (hn : n.size <= 4294967296) :
 Calls Tryz.prog 120 #[.string d, .string n] w fun e w' => e = .returned (.string (joinB d n)) ∧ w' = w := by
 have H := Lib.hid (show joinB d n = if d.toList.isEmpty then n else if endS d then d ++ n else d ++ slashB ++ n by rw [isEmpty_eq]; unfold joinB; simp)
 go_enter Tryz.func120, Tryz.ntmps120
 go_wp2_with (go_at_call 95; refine (hs1 _ _ hs).mono ?_; rintro e w' ⟨rfl, rfl⟩)
 all_goals
  go_ret
  refine ⟨?_, rfl⟩
  rw [H.out]
  simp [*]
theorem endS_last (d : ByteArray) (h : 1 <= d.size) : endS d = decide (d[d.size - 1] = 47) := by
 unfold endS
 rw [List.getElem?_eq_getElem (by rw [len_data]; omega), Bool.eq_iff_iff, decide_eq_true_eq, decide_eq_true_eq]
 exact ⟨fun h => Option.some.inj h.2, fun e => ⟨h, congrArg some e⟩⟩
end Go.Proofs.YtnaenhekjdmlaaaGreatDoor
namespace Go.Proofs.YtnaenhekjdmlaaaGreatDoor
open Go.RowKit
set_option maxRecDepth 100000
set_option maxHeartbeats 2000000
theorem boxed {w w1 : World} {cs : Array Value} {T : TypeId} (hk : Keeps NoB (w.alloc (.cells cs T)) w1) (j : Nat) (v : Value) (hv : cs[j]? = some v) : w1.cell? ⟨w.heap.size, j, none⟩ = some v := by
 have hn := heap_alloc_new w (.cells cs T)
 have h4 := (hk.block w.heap.size (by simp) (fun h => h)).trans hn
 rw [cell_of_row w1 _ j _ T (0, 0) h4]
 exact hv
section
variable {S : Nat -> Prop} {w : World} {p : Option Addr} {c : Nat} {d : Nds} {room : Int}
end
set_option maxRecDepth 100000
set_option maxHeartbeats 1000000
theorem Kills.garb {d d' : Nds} {i : Int} (h : Garb d i) (k : Kills d d') (hh : has d' i) : Garb d' i := by
 induction k with
 | refl => exact h
 | step j hj _ ih =>
   by_cases e : i = j
   ·subst e
    have := (Kills.was ‹_› hh).1
    exact absurd rfl ((has_kill hj.1).1 this).1
   ·exact ih (h.other hj.1 e) hh
set_option maxRecDepth 100000
set_option maxHeartbeats 1000000
section
variable {S : Nat -> Prop} {w : World} {p : Option Addr} {c : Nat} {d : Nds} {room : Int}
theorem boxedz {w w1 : World} {cs : Array Value} {T : TypeId} (hk : Keeps NoB (w.alloc (.cells cs T)) w1) (j : Nat) : w1.frozen? ⟨w.heap.size, j, none⟩ = false := by
 have hn := heap_alloc_new w (.cells cs T)
 have h4 := (hk.block w.heap.size (by simp) (fun h => h)).trans hn
 exact frozen_of_row w1 _ j _ T h4
end
end Go.Proofs.YtnaenhekjdmlaaaGreatDoor
