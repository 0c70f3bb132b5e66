/-
  Layer 4, plain: a disk's nodes as the document has them, what names them, what lets go of them. No program in sight.
-/
import Derived.Test.YtimidmogcbapnaaGreatDoorG01
import Derived.Test.YtimidmogcbapnaaGreatDoorG02
import Derived.BigQuiet
import Derived.Deep.QuietTactic
import Derived.StillTailTactics

set_option linter.unusedSimpArgs false
set_option linter.unusedVariables false
set_option maxRecDepth 100000
namespace Go.Proofs.YtimidmogcbapnaaGreatDoor
structure Nd where
 kind : Int
 mode : Int
 holds : Int
 data : ByteArray
 ents : List Ent
def Nd.gone : Nd := ⟨0, 0, 0, ⟨#[]⟩, []⟩
def Nd.setMode (n : Nd) (m : Int) : Nd := ⟨n.kind, m, n.holds, n.data, n.ents⟩
def Nd.setHolds (n : Nd) (h : Int) : Nd := ⟨n.kind, n.mode, h, n.data, n.ents⟩
def Nd.setData (n : Nd) (s : ByteArray) : Nd := ⟨n.kind, n.mode, n.holds, s, n.ents⟩
def Nd.setEnts (n : Nd) (l : List Ent) : Nd := ⟨n.kind, n.mode, n.holds, n.data, l⟩
abbrev Nds := List Nd
def nd (d : Nds) (i : Int) : Nd := if 0 <= i then (d[i.toNat]?).getD Nd.gone else Nd.gone
def has (d : Nds) (i : Int) : Prop := (nd d i).kind ≠ 0
instance (d : Nds) (i : Int) : Decidable (has d i) := inferInstanceAs (Decidable (_ ≠ _))
def upd (d : Nds) (i : Int) (n : Nd) : Nds := if 0 <= i then d.set i.toNat n else d
def sumBy (f : Nd -> Nat) (d : Nds) : Nat := (d.map f).sum
def namesOf (i : Int) (n : Nd) : Nat := n.ents.countP fun e => decide (e.2 = i)
def cnt (d : Nds) (i : Int) : Nat := sumBy (namesOf i) d
def links (d : Nds) (i : Int) : Nat := (if i = 1 then 1 else 0) + cnt d i
def room1 (n : Nd) : Nat := n.data.size + entSize n.ents
def used (d : Nds) : Nat := sumBy room1 d
def here1 (n : Nd) : Nat := if n.kind = 0 then 0 else 1
def count (d : Nds) : Nat := sumBy here1 d
def mass1 (n : Nd) : Nat := 1 + n.holds.toNat + n.ents.length
def mass (d : Nds) : Nat := sumBy mass1 d
theorem nd_gone {d : Nds} {i : Int} (h : ¬ (0 <= i ∧ i.toNat < d.length)) : nd d i = Nd.gone := by
 unfold nd
 split
 ·rw [List.getElem?_eq_none (by omega)]; rfl
 ·rfl
theorem has_range {d : Nds} {i : Int} (h : has d i) : 0 <= i ∧ i.toNat < d.length := by
 by_cases hh : 0 <= i ∧ i.toNat < d.length
 ·exact hh
 ·unfold has at h; rw [nd_gone hh] at h; exact absurd rfl h
theorem nd_get {d : Nds} {i : Int} (h0 : 0 <= i) (h : i.toNat < d.length) : d[i.toNat]? = some (nd d i) := by
 unfold nd
 rw [if_pos h0, List.getElem?_eq_getElem h]; rfl
theorem nd_nat {d : Nds} {i : Nat} {n : Nd} (h : d[i]? = some n) : nd d i = n := by
 simp [nd, h]
theorem upd_length (d : Nds) (i : Int) (n : Nd) : (upd d i n).length = d.length := by
 unfold upd; split <;> simp
theorem nd_upd {d : Nds} {i : Int} (h0 : 0 <= i) (h : i.toNat < d.length) (n : Nd) (j : Int) : nd (upd d i n) j = if j = i then n else nd d j := by
 unfold nd upd
 rw [if_pos h0]
 by_cases hj : 0 <= j
 ·rw [if_pos hj, if_pos hj]
  by_cases e : j = i
  ·subst e; simp [h]
  ·have : i.toNat ≠ j.toNat := by omega
   simp [e, this]
 ·rw [if_neg hj, if_neg hj, if_neg (by omega)]
theorem sumBy_set (f : Nd -> Nat) (d : Nds) (i : Nat) (n o : Nd) (h : d[i]? = some o) : sumBy f (d.set i n) + f o = sumBy f d + f n := by
 induction d generalizing i with
 | nil => simp at h
 | cons a d ih =>
   cases i with
   | zero => simp at h; subst h; simp [sumBy]; omega
   | succ i =>
     simp at h
     have := ih i h
     simp [sumBy] at this ⊢
     omega
theorem sumBy_upd (f : Nd -> Nat) {d : Nds} {i : Int} (h0 : 0 <= i) (h : i.toNat < d.length) (n : Nd) : sumBy f (upd d i n) + f (nd d i) = sumBy f d + f n := by
 unfold upd
 rw [if_pos h0]
 exact sumBy_set f d _ n _ (nd_get h0 h)
theorem sumBy_append (f : Nd -> Nat) (d : Nds) (n : Nd) : sumBy f (d ++ [n]) = sumBy f d + f n := by
 simp [sumBy]
theorem sumBy_ge (f : Nd -> Nat) {d : Nds} {i : Int} (h0 : 0 <= i) (h : i.toNat < d.length) : f (nd d i) <= sumBy f d := by
 have := sumBy_upd f h0 h Nd.gone
 have hg := sumBy_upd (fun n => f n) h0 h (nd d i)
 have h2 : ∀ (l : Nds) (k : Nat) (o : Nd), l[k]? = some o -> f o <= sumBy f l := by
  intro l
  induction l with
  | nil => intro k o h; simp at h
  | cons a l ih =>
    intro k o h
    cases k with
    | zero => simp at h; subst h; simp [sumBy]
    | succ k =>
      simp at h
      have := ih k o h
      simp [sumBy] at this ⊢
      omega
 exact h2 d _ _ (nd_get h0 h)
theorem sumBy_zero {f : Nd -> Nat} {d : Nds} : sumBy f d = 0 ↔ ∀ n ∈ d, f n = 0 := by
 induction d with
 | nil => simp [sumBy]
 | cons a d ih =>
   simp only [sumBy, List.map_cons, List.sum_cons, List.mem_cons, forall_eq_or_imp] at ih ⊢
   rw [Nat.add_eq_zero_iff, ih]
theorem namesOf_pos {i : Int} {n : Nd} : 0 < namesOf i n ↔ ∃ e ∈ n.ents, e.2 = i := by
 simp [namesOf, List.countP_pos_iff]
theorem cnt_pos {d : Nds} {i : Int} : 0 < cnt d i ↔ ∃ j e, e ∈ (nd d j).ents ∧ e.2 = i := by
 rw [Nat.pos_iff_ne_zero, Ne, cnt, sumBy_zero]
 constructor
 ·intro h
  simp only [Classical.not_forall] at h
  obtain ⟨n, hn, hz⟩ := h
  obtain ⟨e, he, hi⟩ := namesOf_pos.1 (Nat.pos_of_ne_zero hz)
  obtain ⟨j, hj⟩ := List.mem_iff_getElem?.1 hn
  exact ⟨j, e, by rw [nd_nat hj]; exact he, hi⟩
 ·rintro ⟨j, e, he, hi⟩ h
  have hr : 0 <= j ∧ j.toNat < d.length := by
   by_cases hh : 0 <= j ∧ j.toNat < d.length
   ·exact hh
   ·rw [nd_gone hh] at he; cases he
  have := h (nd d j) (List.mem_of_getElem? (nd_get hr.1 hr.2))
  have h2 := namesOf_pos.2 ⟨e, he, hi⟩
  omega
def Garb (d : Nds) (i : Int) : Prop := has d i ∧ links d i = 0 ∧ (nd d i).holds = 0
def NoGarb (d : Nds) : Prop := ∀ i, ¬ Garb d i
def kill (d : Nds) (i : Int) : Nds := upd d i Nd.gone
inductive Kills : Nds -> Nds -> Prop
 | refl (d : Nds) : Kills d d
 | step {d d' : Nds} (i : Int) : Garb d i -> Kills (kill d i) d' -> Kills d d'
theorem Kills.trans {a b c : Nds} (h : Kills a b) (k : Kills b c) : Kills a c := by
 induction h with
 | refl => exact k
 | step i hi _ ih => exact .step i hi (ih k)
theorem Kills.one {d : Nds} {i : Int} (h : Garb d i) : Kills d (kill d i) := .step i h (.refl _)
theorem nd_kill {d : Nds} {i : Int} (h : has d i) (j : Int) : nd (kill d i) j = if j = i then Nd.gone else nd d j := nd_upd (has_range h).1 (has_range h).2 _ _
theorem kill_length (d : Nds) (i : Int) : (kill d i).length = d.length := upd_length _ _ _
theorem has_kill {d : Nds} {i j : Int} (h : has d i) : has (kill d i) j ↔ j ≠ i ∧ has d j := by
 unfold has
 rw [nd_kill h]
 by_cases e : j = i
 ·simp [e, Nd.gone]
 ·simp [e]
theorem cnt_kill {d : Nds} {i : Int} (h : has d i) (j : Int) : cnt (kill d i) j + namesOf j (nd d i) = cnt d j := by
 have := sumBy_upd (namesOf j) (has_range h).1 (has_range h).2 Nd.gone
 simpa [cnt, kill, namesOf, Nd.gone] using this
theorem links_kill {d : Nds} {i : Int} (h : has d i) (j : Int) : links (kill d i) j + namesOf j (nd d i) = links d j := by
 have := cnt_kill h j
 unfold links
 omega
theorem count_kill {d : Nds} {i : Int} (h : has d i) : count (kill d i) + 1 = count d := by
 have := sumBy_upd here1 (has_range h).1 (has_range h).2 Nd.gone
 have h1 : here1 (nd d i) = 1 := by unfold here1; rw [if_neg h]
 rw [h1] at this
 simpa [count, kill, here1, Nd.gone] using this
theorem used_kill {d : Nds} {i : Int} (h : has d i) : used (kill d i) + room1 (nd d i) = used d := by
 have := sumBy_upd room1 (has_range h).1 (has_range h).2 Nd.gone
 have h1 : room1 Nd.gone = 0 := rfl
 rw [h1] at this
 simpa [used, kill] using this
theorem mass_kill {d : Nds} {i : Int} (h : has d i) : mass (kill d i) <= mass d := by
 have := sumBy_upd mass1 (has_range h).1 (has_range h).2 Nd.gone
 have h1 : mass1 Nd.gone = 1 := rfl
 have h2 : 1 <= mass1 (nd d i) := by unfold mass1; omega
 unfold mass kill at *
 omega
theorem Garb.other {d : Nds} {i j : Int} (hi : Garb d i) (hj : has d j) (hne : i ≠ j) : Garb (kill d j) i := by
 obtain ⟨h1, h2, h3⟩ := hi
 refine ⟨(has_kill hj).2 ⟨hne, h1⟩, ?_, ?_⟩
 ·have := links_kill hj i; omega
 ·rw [nd_kill hj, if_neg hne]; exact h3
theorem kill_comm {d : Nds} {i j : Int} (hi : has d i) (hj : has d j) (hne : i ≠ j) : kill (kill d i) j = kill (kill d j) i := by
 have := has_range hi
 have := has_range hj
 unfold kill upd
 rw [if_pos (by omega), if_pos (by omega), if_pos (by omega), if_pos (by omega)]
 exact List.set_comm _ _ (by omega)
theorem Kills.normal (d : Nds) : ∃ d', Kills d d' ∧ NoGarb d' := by
 generalize hn : count d = n
 induction n generalizing d with
 | zero =>
   refine ⟨d, .refl d, fun i hi => ?_⟩
   have := count_kill hi.1
   omega
 | succ n ih =>
   by_cases h : NoGarb d
   ·exact ⟨d, .refl d, h⟩
   ·simp only [NoGarb, Classical.not_forall, Classical.not_not] at h
    obtain ⟨i, hi⟩ := h
    have := count_kill hi.1
    obtain ⟨d', h1, h2⟩ := ih (kill d i) (by omega)
    exact ⟨d', .step i hi h1, h2⟩
theorem Kills.unique {d a b : Nds} (ha : Kills d a) (hb : Kills d b) (na : NoGarb a) (nb : NoGarb b) : a = b := by
 generalize hn : count d = n
 induction n using Nat.strongRecOn generalizing d a b with
 | ind n ih =>
   cases ha with
   | refl =>
     cases hb with
     | refl => rfl
     | step j hj _ => exact absurd hj (na j)
   | step i hi ha' =>
     cases hb with
     | refl => exact absurd hi (nb i)
     | step j hj hb' =>
       have ci := count_kill hi.1
       have cj := count_kill hj.1
       by_cases e : i = j
       ·subst e; exact ih _ (by omega) ha' hb' na nb rfl
       ·obtain ⟨c, hc, nc⟩ := Kills.normal (kill (kill d i) j)
        have h1 := ih _ (by omega) ha' (.step j (hj.other hi.1 (fun h => e h.symm)) hc) na nc rfl
        rw [kill_comm hi.1 hj.1 e] at hc
        have h2 := ih _ (by omega) hb' (.step i (hi.other hj.1 e) hc) nb nc rfl
        exact h1.trans h2.symm
noncomputable def gc (d : Nds) : Nds := Classical.choose (Kills.normal d)
theorem gc_kills (d : Nds) : Kills d (gc d) := (Classical.choose_spec (Kills.normal d)).1
theorem gc_clean (d : Nds) : NoGarb (gc d) := (Classical.choose_spec (Kills.normal d)).2
theorem gc_eq {d d' : Nds} (h : Kills d d') (hn : NoGarb d') : gc d = d' := (gc_kills d).unique h (gc_clean d) hn
theorem gc_same {d : Nds} (h : NoGarb d) : gc d = d := gc_eq (.refl d) h
structure NdOk (n : Nd) : Prop where
 kind0 : 0 <= n.kind
 kind3 : n.kind <= 3
 gone : n.kind = 0 -> n = Nd.gone
 mode0 : 0 <= n.mode
 mode1 : n.mode <= 4095
 holds : 0 <= n.holds
 data : n.data.size <= 4194304
 dirs : n.kind = 2 -> n.data = ⟨#[]⟩
 flat : n.kind ≠ 2 -> n.ents = []
 rising : Rising n.ents
 names : ∀ e ∈ n.ents, okName e.1 = true
theorem NdOk.none : NdOk Nd.gone := ⟨by decide, by decide, fun _ => rfl, by decide, by decide, by decide, by decide, (fun h => by cases h), fun _ => rfl, List.Pairwise.nil, (fun _ h => by cases h)⟩
def Par (d : Nds) (j i : Int) : Prop := (nd d i).kind = 2 ∧ ∃ e ∈ (nd d j).ents, e.2 = i
structure DInv (d : Nds) : Prop where
 two : 2 <= d.length
 zero : nd d 0 = Nd.gone
 root : (nd d 1).kind = 2
 node : ∀ i, NdOk (nd d i)
 tgt : ∀ i e, e ∈ (nd d i).ents -> has d e.2 ∧ e.2 ≠ 1
 single : ∀ i, (nd d i).kind = 2 -> links d i <= 1
 acyc : ∀ i, Acc (Par d) i
theorem DInv.pos {d : Nds} (h : DInv d) {i : Int} (hi : has d i) : 1 <= i := by
 have := has_range hi
 by_cases e : i = 0
 ·subst e; rw [has, h.zero] at hi; exact absurd rfl hi
 ·omega
theorem DInv.not_garb_root {d : Nds} : ¬ Garb d 1 := fun h => by have := h.2.1; unfold links at this; simp at this
theorem DInv.kill {d : Nds} (h : DInv d) {i : Int} (hi : Garb d i) : DInv (kill d i) := by
 have hg := hi.1
 have hne : i ≠ 1 := fun e => by subst e; exact DInv.not_garb_root hi
 have hpos := h.pos hg
 refine ⟨by rw [kill_length]; exact h.two, ?_, ?_, fun j => ?_, fun j e he => ?_, fun j hj => ?_, fun j => ?_⟩
 ·rw [nd_kill hg, if_neg (by omega)]; exact h.zero
 ·rw [nd_kill hg, if_neg (fun e => hne e.symm)]; exact h.root
 ·rw [nd_kill hg]; split
  ·exact NdOk.none
  ·exact h.node j
 ·rw [nd_kill hg] at he
  split at he
  ·cases he
  ·obtain ⟨h1, h2⟩ := h.tgt j e he
   refine ⟨(has_kill hg).2 ⟨fun e1 => ?_, h1⟩, h2⟩
   have : 0 < cnt d i := cnt_pos.2 ⟨j, e, he, e1⟩
   have := hi.2.1
   unfold links at this
   omega
 ·rw [nd_kill hg] at hj
  split at hj
  ·cases hj
  ·have := h.single j hj
   have := links_kill hg j
   omega
 ·have := h.acyc j
  induction this with
  | intro j _ ih =>
    refine ⟨j, fun k hk => ih k ?_⟩
    obtain ⟨h1, e, he, h2⟩ := hk
    rw [nd_kill hg] at h1 he
    split at h1
    ·cases h1
    ·split at he
     ·cases he
     ·exact ⟨h1, e, he, h2⟩
theorem Kills.length {d d' : Nds} (k : Kills d d') : d'.length = d.length := by
 induction k with
 | refl => rfl
 | step i _ _ ih => rw [ih, kill_length]
theorem Kills.mass {d d' : Nds} (k : Kills d d') : mass d' <= mass d := by
 induction k with
 | refl => exact Nat.le_refl _
 | step i hi _ ih => exact Nat.le_trans ih (mass_kill hi.1)
theorem Kills.was {d d' : Nds} (k : Kills d d') {i : Int} (h : has d' i) : has d i ∧ nd d' i = nd d i := by
 induction k with
 | refl => exact ⟨h, rfl⟩
 | step j hj _ ih =>
   obtain ⟨h1, h2⟩ := ih h
   obtain ⟨h3, h4⟩ := (has_kill hj.1).1 h1
   exact ⟨h4, by rw [h2, nd_kill hj.1, if_neg h3]⟩
theorem mass_ge (d : Nds) : d.length <= mass d := by
 induction d with
 | nil => simp
 | cons a d ih =>
   simp [mass, sumBy] at ih ⊢
   have : 1 <= mass1 a := by unfold mass1; omega
   omega
theorem used_le {d : Nds} (h : DInv d) : used d <= 4194304 * mass d := by
 have hn : ∀ n ∈ d, NdOk n := fun n hn => by
  obtain ⟨j, hj⟩ := List.mem_iff_getElem?.1 hn
  have := h.node j
  rwa [nd_nat hj] at this
 clear h
 induction d with
 | nil => simp [used, sumBy]
 | cons a d ih =>
   have ih := ih (fun n h => hn n (List.mem_cons_of_mem _ h))
   have ha := hn a List.mem_cons_self
   have h2 : entSize a.ents <= 255 * a.ents.length := by
    have : ∀ l : List Ent, (∀ e ∈ l, okName e.1 = true) -> entSize l <= 255 * l.length := by
     intro l hl
     induction l with
     | nil => simp [entSize]
     | cons x l ih =>
       have h1 := ih (fun e h => hl e (List.mem_cons_of_mem _ h))
       have h2 := hl x List.mem_cons_self
       simp [okName] at h2
       simp [entSize] at h1 ⊢
       omega
    exact this _ ha.names
   have h3 := ha.data
   simp only [used, mass, sumBy, List.map_cons, List.sum_cons] at ih ⊢
   have h4 : room1 a <= 4194304 * mass1 a := by unfold room1 mass1; omega
   rw [Nat.mul_add]
   omega
end Go.Proofs.YtimidmogcbapnaaGreatDoor
namespace Go.Proofs.YtimidmogcbapnaaGreatDoor
open Go.RowKit
inductive Tag where
 | none | disk | map | node (i : Int) | data (i : Int) | dir (i : Int)
structure RD where
 b : Nat
 kv : Kv
 g : Int -> Nat
 dv : Int -> Value
 ev : Int -> Value
 tag : Nat -> Tag
def RD.F (R : RD) : Nat -> Prop := fun x => R.tag x ≠ .none
def RD.N (R : RD) (i : Int) : Nat -> Prop := fun x => R.tag x = .node i ∨ R.tag x = .data i ∨ R.tag x = .dir i
structure NodeAt (w : World) (g : Nat) (dv ev : Value) (n : Nd) (lk up : Int) : Prop where
 kind : w.cell? ⟨g, 0, none⟩ = some (.int .i64 n.kind)
 mode : w.cell? ⟨g, 1, none⟩ = some (.int .i64 n.mode)
 links : w.cell? ⟨g, 2, none⟩ = some (.int .i64 lk)
 holds : w.cell? ⟨g, 3, none⟩ = some (.int .i64 n.holds)
 data : w.cell? ⟨g, 4, none⟩ = some dv
 own : OwnB (fun _ => True) w dv n.data
 dir : IsD w ⟨g, 5, none⟩ ev n.ents
 up : w.cell? ⟨g, 6, none⟩ = some (.int .i64 up)
 fz : ∀ j, w.frozen? ⟨g, j, none⟩ = false
theorem NodeAt.lt {w : World} {g : Nat} {dv ev : Value} {n : Nd} {lk up : Int} (h : NodeAt w g dv ev n lk up) : g < w.heap.size := lt_of_cell h.kind
theorem NodeAt.keep {F : Nat -> Prop} {w w' : World} {g : Nat} {dv ev : Value} {n : Nd} {lk up : Int} (h : NodeAt w g dv ev n lk up) (k : Keeps F w w') (hg : ¬ F g) (hd : ∀ x, dv.ownBlock = some x -> ¬ F x) (he : ∀ x, ev.ownBlock = some x -> ¬ F x) :
 NodeAt w' g dv ev n lk up := by
 have hc : ∀ j, w'.cell? ⟨g, j, none⟩ = w.cell? ⟨g, j, none⟩ := fun j => k.cell (p := ⟨g, j, none⟩) h.lt hg
 have hf : ∀ j, w'.frozen? ⟨g, j, none⟩ = w.frozen? ⟨g, j, none⟩ := fun j => k.frozen (p := ⟨g, j, none⟩) h.lt hg
 exact ⟨(hc 0).trans h.kind, (hc 1).trans h.mode, (hc 2).trans h.links, (hc 3).trans h.holds, (hc 4).trans h.data, h.own.keep k hd, h.dir.keep k hg he, (hc 6).trans h.up, fun j => (hf j).trans (h.fz j)⟩
structure Rep (R : RD) (w : World) (a : Nat) (d : Nds) (room us : Int) (lk up : Int -> Int) : Prop where
 l : w.cell? ⟨a, 0, none⟩ = some (.map (some R.b))
 next : w.cell? ⟨a, 1, none⟩ = some (.int .i64 d.length)
 used : w.cell? ⟨a, 2, none⟩ = some (.int .i64 us)
 room : w.cell? ⟨a, 3, none⟩ = some (.int .i64 room)
 fz : ∀ j, w.frozen? ⟨a, j, none⟩ = false
 tagA : R.tag a = .disk
 tagB : R.tag R.b = .map
 map : IMap w R.b R.kv
 get : ∀ i, kvGet R.kv i = if has d i then some (.pointer (some ⟨R.g i, 0, none⟩)) else none
 len : R.kv.length = count d
 tagN : ∀ i, has d i -> R.tag (R.g i) = .node i
 tagD : ∀ i, has d i -> ∀ x, (R.dv i).ownBlock = some x -> R.tag x = .data i
 tagE : ∀ i, has d i -> ∀ x, (R.ev i).ownBlock = some x -> R.tag x = .dir i
 node : ∀ i, has d i -> NodeAt w (R.g i) (R.dv i) (R.ev i) (nd d i) (lk i) (up i)
 top : ∀ x, w.heap.size <= x -> R.tag x = .none
section
variable {R : RD} {w w' : World} {a : Nat} {d : Nds} {room us : Int} {lk up : Int -> Int}
theorem Rep.alt (h : Rep R w a d room us lk up) : a < w.heap.size := lt_of_cell h.l
theorem Rep.keep {F : Nat -> Prop} (h : Rep R w a d room us lk up) (k : Keeps F w w') (hF : ∀ x, x < w.heap.size -> F x -> R.tag x = .none) : Rep R w' a d room us lk up := by
 have hA : ¬ F a := fun hf => by have := hF a h.alt hf; rw [h.tagA] at this; cases this
 have hB : ¬ F R.b := fun hf => by have := hF R.b h.map.lt hf; rw [h.tagB] at this; cases this
 have hc : ∀ j, w'.cell? ⟨a, j, none⟩ = w.cell? ⟨a, j, none⟩ := fun j => k.cell (p := ⟨a, j, none⟩) h.alt hA
 have hf : ∀ j, w'.frozen? ⟨a, j, none⟩ = w.frozen? ⟨a, j, none⟩ := fun j => k.frozen (p := ⟨a, j, none⟩) h.alt hA
 refine ⟨(hc 0).trans h.l, (hc 1).trans h.next, (hc 2).trans h.used, (hc 3).trans h.room, fun j => (hf j).trans (h.fz j), h.tagA, h.tagB, h.map.keep k hB, h.get, h.len, h.tagN, h.tagD, h.tagE, fun i hi => ?_, fun x hx => h.top x (Nat.le_trans k.size hx)⟩
 have hn := h.node i hi
 refine hn.keep k (fun hf => ?_) (fun x hx hf => ?_) (fun x hx hf => ?_)
 ·have := hF _ hn.lt hf; rw [h.tagN i hi] at this; cases this
 ·have := hF _ (hn.own.lt x hx) hf; rw [h.tagD i hi x hx] at this; cases this
 ·have := hF _ (hn.dir.ownlt x hx) hf; rw [h.tagE i hi x hx] at this; cases this
theorem Rep.keepN (h : Rep R w a d room us lk up) (k : Keeps NoB w w') : Rep R w' a d room us lk up := h.keep k (fun _ _ h => h.elim)
structure Turn (R : RD) (w : World) (R' : RD) (w' : World) : Prop where
 keeps : Keeps R.F w w'
 same : ∀ x, x < w.heap.size -> R'.tag x = R.tag x
theorem Turn.refl (R : RD) (w : World) : Turn R w R w := ⟨Keeps.refl _ _, fun _ _ => rfl⟩
theorem Turn.of (k : Keeps R.F w w') : Turn R w R w' := ⟨k, fun _ _ => rfl⟩
theorem Turn.ofN (k : Keeps NoB w w') : Turn R w R w' := ⟨k.of_none, fun _ _ => rfl⟩
theorem Turn.trans {R' R'' : RD} {w'' : World} (h : Turn R w R' w') (k : Turn R' w' R'' w'') : Turn R w R'' w'' :=
 ⟨h.keeps.trans' k.keeps (fun _ _ h => h) (fun x hx hf => by unfold RD.F at *; rwa [<- h.same x hx]), fun x hx => (k.same x (Nat.lt_of_lt_of_le hx h.keeps.size)).trans (h.same x hx)⟩
theorem cell_set {w : World} {g j k : Nat} {v u : Value} (h : w.cell? ⟨g, j, none⟩ = some v) : (w.setCell ⟨g, k, none⟩ u).cell? ⟨g, j, none⟩ = some (if j = k then u else v) := by
 by_cases e : j = k
 ·subst e; rw [if_pos rfl]; exact World.cell?_setCell_same _ _ _ h
 ·rw [if_neg e, World.cell?_setCell_other _ _ _ _ (by simp [e])]; exact h
theorem keeps_set (w : World) (p : Addr) (u : Value) : Keeps (fun x => x = p.block) w (w.setCell p u) := Keeps.setCell (p := p) (Keeps.refl (fun x => x = p.block) w) (Or.inl rfl) u
theorem frozen_set (w : World) (p q : Addr) (u : Value) : (w.setCell p u).frozen? q = w.frozen? q := by simp
theorem Rep.setUsed (h : Rep R w a d room us lk up) (us' : Int) : Rep R (w.setCell ⟨a, 2, none⟩ (.int .i64 us')) a d room us' lk up := by
 have k := keeps_set w ⟨a, 2, none⟩ (.int .i64 us')
 have hB : ¬ R.b = a := fun e => by have := h.tagB; rw [e, h.tagA] at this; cases this
 refine ⟨cell_set h.l, cell_set h.next, cell_set h.used, cell_set h.room, fun j => (frozen_set _ _ _ _).trans (h.fz j), h.tagA, h.tagB, h.map.keep k hB, h.get, h.len, h.tagN, h.tagD, h.tagE, fun i hi => ?_, fun x hx => h.top x (Nat.le_trans k.size hx)⟩
 have hn := h.node i hi
 refine hn.keep k (fun hf => ?_) (fun x hx hf => ?_) (fun x hx hf => ?_)
 ·have := h.tagN i hi; simp only at hf; rw [hf, h.tagA] at this; cases this
 ·have := h.tagD i hi x hx; simp only at hf; rw [hf, h.tagA] at this; cases this
 ·have := h.tagE i hi x hx; simp only at hf; rw [hf, h.tagA] at this; cases this
theorem Rep.fA (h : Rep R w a d room us lk up) : R.F a := by unfold RD.F; rw [h.tagA]; exact fun h => by cases h
theorem Rep.fB (h : Rep R w a d room us lk up) : R.F R.b := by unfold RD.F; rw [h.tagB]; exact fun h => by cases h
theorem Rep.fN (h : Rep R w a d room us lk up) {i : Int} (hi : has d i) : R.F (R.g i) := by unfold RD.F; rw [h.tagN i hi]; exact fun h => by cases h
theorem RD.N.F {i : Int} {x : Nat} (h : R.N i x) : R.F x := by
 unfold RD.F
 rcases h with h | h | h <;> rw [h] <;> exact fun h => by cases h
theorem Rep.nN (h : Rep R w a d room us lk up) {i : Int} (hi : has d i) : R.N i (R.g i) := .inl (h.tagN i hi)
def setAt {α : Type} (f : Int -> α) (i : Int) (v : α) : Int -> α := fun j => if j = i then v else f j
theorem setAt_same {α : Type} (f : Int -> α) (i : Int) (v : α) : setAt f i v i = v := if_pos rfl
theorem setAt_other {α : Type} {f : Int -> α} {i j : Int} {v : α} (h : j ≠ i) : setAt f i v j = f j := if_neg h
theorem Rep.turn (h : Rep R w a d room us lk up) {i : Int} (hi : has d i) (k : Keeps (R.N i) w w') (dv ev : Value) (T : Nat -> Tag) (hT : ∀ x, x < w.heap.size -> T x = R.tag x) (hT' : ∀ x, w'.heap.size <= x -> T x = .none)
 (hD : ∀ x, dv.ownBlock = some x -> T x = .data i) (hE : ∀ x, ev.ownBlock = some x -> T x = .dir i) {n : Nd} (hn : n.kind ≠ 0) {lk' up' : Int} (hN : NodeAt w' (R.g i) dv ev n lk' up') :
 Rep { R with dv := setAt R.dv i dv, ev := setAt R.ev i ev, tag := T } w' a (upd d i n) room us (setAt lk i lk') (setAt up i up') := by
 have hr := has_range hi
 have notN : ∀ {x t}, R.tag x = t -> (t ≠ .node i ∧ t ≠ .data i ∧ t ≠ .dir i) -> ¬ R.N i x := by
  rintro x t rfl ⟨h1, h2, h3⟩ (h | h | h)
  ·exact h1 h
  ·exact h2 h
  ·exact h3 h
 have hA : ¬ R.N i a := notN h.tagA ⟨by simp, by simp, by simp⟩
 have hB : ¬ R.N i R.b := notN h.tagB ⟨by simp, by simp, by simp⟩
 have hc : ∀ j, w'.cell? ⟨a, j, none⟩ = w.cell? ⟨a, j, none⟩ := fun j => k.cell (p := ⟨a, j, none⟩) h.alt hA
 have hf : ∀ j, w'.frozen? ⟨a, j, none⟩ = w.frozen? ⟨a, j, none⟩ := fun j => k.frozen (p := ⟨a, j, none⟩) h.alt hA
 have hh : ∀ j, has (upd d i n) j ↔ has d j := fun j => by
  unfold has
  rw [nd_upd hr.1 hr.2]
  split
  ·next e => subst e; exact ⟨fun _ => hi, fun _ => hn⟩
  ·rfl
 have hcount : count (upd d i n) = count d := by
  have := sumBy_upd here1 hr.1 hr.2 n
  have h1 : here1 n = 1 := by unfold here1; rw [if_neg hn]
  have h2 : here1 (nd d i) = 1 := by unfold here1; rw [if_neg hi]
  unfold count
  omega
 refine ⟨(hc 0).trans h.l, ?_, (hc 2).trans h.used, (hc 3).trans h.room, fun j => (hf j).trans (h.fz j), ?_, ?_, h.map.keep k hB, fun j => ?_, h.len.trans hcount.symm, fun j hj => ?_, fun j hj x hx => ?_, fun j hj x hx => ?_, fun j hj => ?_, hT'⟩
 ·rw [upd_length]; exact (hc 1).trans h.next
 ·exact (hT a h.alt).trans h.tagA
 ·exact (hT R.b h.map.lt).trans h.tagB
 ·rw [h.get j]; simp only [hh]
 ·have hj := (hh j).1 hj
  exact (hT _ (h.node j hj).lt).trans (h.tagN j hj)
 ·have hj' := (hh j).1 hj
  simp only [setAt] at hx
  split at hx
  ·next e => subst e; exact hD x hx
  ·exact (hT _ ((h.node j hj').own.lt x hx)).trans (h.tagD j hj' x hx)
 ·have hj' := (hh j).1 hj
  simp only [setAt] at hx
  split at hx
  ·next e => subst e; exact hE x hx
  ·exact (hT _ ((h.node j hj').dir.ownlt x hx)).trans (h.tagE j hj' x hx)
 ·have hj' := (hh j).1 hj
  rw [nd_upd hr.1 hr.2]
  simp only [setAt]
  by_cases e : j = i
  ·subst e; simp only [if_true]; exact hN
  ·simp only [e, if_false]
   refine (h.node j hj').keep k ?_ (fun x hx => ?_) (fun x hx => ?_)
   ·exact notN (h.tagN j hj') ⟨by simp [e], by simp, by simp⟩
   ·exact notN (h.tagD j hj' x hx) ⟨by simp, by simp [e], by simp⟩
   ·exact notN (h.tagE j hj' x hx) ⟨by simp, by simp, by simp [e]⟩
theorem setAt_self {α : Type} {f : Int -> α} {i : Int} : setAt f i (f i) = f := by
 funext j
 unfold setAt
 split
 ·next e => rw [e]
 ·rfl
theorem upd_self {d : Nds} {i : Int} (h : has d i) : upd d i (nd d i) = d := by
 have hr := has_range h
 unfold upd
 rw [if_pos hr.1]
 have := nd_get hr.1 hr.2
 apply List.ext_getElem?
 intro j
 rw [List.getElem?_set]
 split
 ·next e => subst e; rw [if_pos hr.2, this]
 ·rfl
theorem NodeAt.set {g : Nat} {dv ev : Value} {n : Nd} {lk up : Int} (h : NodeAt w g dv ev n lk up) (hd : ¬ dv.ownBlock = some g) (j : Nat) (v : Int) (hj : j < 4 ∨ j = 6) (n' : Nd) (lk' up' : Int)
 (h0 : n'.kind = if 0 = j then v else n.kind) (h1 : n'.mode = if 1 = j then v else n.mode) (h2 : lk' = if 2 = j then v else lk) (h3 : n'.holds = if 3 = j then v else n.holds) (h4 : n'.data = n.data) (h5 : n'.ents = n.ents) (h6 : up' = if 6 = j then v else up) :
 NodeAt (w.setCell ⟨g, j, none⟩ (.int .i64 v)) g dv ev n' lk' up' := by
 have k := keeps_set w ⟨g, j, none⟩ (.int .i64 v)
 have hap := h.dir.apart
 have wrap : ∀ (c : Nat) (x : Int), (if c = j then Value.int .i64 v else .int .i64 x) = .int .i64 (if c = j then v else x) := fun c x => by split <;> rfl
 refine ⟨?_, ?_, ?_, ?_, ?_, ?_, ?_, ?_, fun i => (frozen_set _ _ _ _).trans (h.fz i)⟩
 ·rw [cell_set h.kind, h0, wrap]
 ·rw [cell_set h.mode, h1, wrap]
 ·rw [cell_set h.links, h2, wrap]
 ·rw [cell_set h.holds, h3, wrap]
 ·rw [cell_set h.data, if_neg (by omega)]
 ·rw [h4]; exact h.own.keep k (fun x hx e => by simp only at e; subst e; exact hd hx)
 ·rw [h5]
  refine ⟨?_, (frozen_set _ _ _ _).trans h.dir.free, h.dir.spot, h.dir.own.keep k (fun x hx e => by simp only at e; subst e; exact hap hx), h.dir.rising, h.dir.names, hap⟩
  have := h.dir.cell
  rw [cell_set this, if_neg (by omega)]
 ·rw [cell_set h.up, h6, wrap]
theorem Rep.dvne (h : Rep R w a d room us lk up) {i : Int} (hi : has d i) : ¬ (R.dv i).ownBlock = some (R.g i) := fun e => by
 have := h.tagD i hi _ e
 rw [h.tagN i hi] at this
 cases this
theorem Rep.setNode (h : Rep R w a d room us lk up) {i : Int} (hi : has d i) (j : Nat) (v : Int) (hj : j < 4 ∨ j = 6) (n' : Nd) (lk' up' : Int) (hk : n'.kind ≠ 0)
 (h0 : n'.kind = if 0 = j then v else (nd d i).kind) (h1 : n'.mode = if 1 = j then v else (nd d i).mode) (h2 : lk' = if 2 = j then v else lk i) (h3 : n'.holds = if 3 = j then v else (nd d i).holds) (h4 : n'.data = (nd d i).data) (h5 : n'.ents = (nd d i).ents) (h6 : up' = if 6 = j then v else up i) :
 Rep R (w.setCell ⟨R.g i, j, none⟩ (.int .i64 v)) a (upd d i n') room us (setAt lk i lk') (setAt up i up') := by
 have hn := (h.node i hi).set (h.dvne hi) j v hj n' lk' up' h0 h1 h2 h3 h4 h5 h6
 have k := keeps_set w ⟨R.g i, j, none⟩ (.int .i64 v)
 have := h.turn hi (k.mono (fun x _ hx => by simp only at hx; subst hx; exact h.nN hi)) (R.dv i) (R.ev i) R.tag (fun _ _ => rfl) (fun x hx => h.top x (Nat.le_trans k.size hx)) (h.tagD i hi) (h.tagE i hi) hk hn
 rwa [setAt_self, setAt_self] at this
theorem Rep.setLinks (h : Rep R w a d room us lk up) {i : Int} (hi : has d i) (v : Int) : Rep R (w.setCell ⟨R.g i, 2, none⟩ (.int .i64 v)) a d room us (setAt lk i v) up := by
 have := h.setNode hi 2 v (by omega) (nd d i) v (up i) hi rfl rfl rfl rfl rfl rfl rfl
 rwa [upd_self hi, setAt_self] at this
theorem Rep.setUp (h : Rep R w a d room us lk up) {i : Int} (hi : has d i) (v : Int) : Rep R (w.setCell ⟨R.g i, 6, none⟩ (.int .i64 v)) a d room us lk (setAt up i v) := by
 have := h.setNode hi 6 v (by omega) (nd d i) (lk i) v hi rfl rfl rfl rfl rfl rfl rfl
 rwa [upd_self hi, setAt_self] at this
theorem Rep.setHolds (h : Rep R w a d room us lk up) {i : Int} (hi : has d i) (v : Int) : Rep R (w.setCell ⟨R.g i, 3, none⟩ (.int .i64 v)) a (upd d i ((nd d i).setHolds v)) room us lk up := by
 have := h.setNode hi 3 v (by omega) ((nd d i).setHolds v) (lk i) (up i) hi rfl rfl rfl rfl rfl rfl rfl
 rwa [setAt_self, setAt_self] at this
theorem Rep.setMode (h : Rep R w a d room us lk up) {i : Int} (hi : has d i) (v : Int) : Rep R (w.setCell ⟨R.g i, 1, none⟩ (.int .i64 v)) a (upd d i ((nd d i).setMode v)) room us lk up := by
 have := h.setNode hi 1 v (by omega) ((nd d i).setMode v) (lk i) (up i) hi rfl rfl rfl rfl rfl rfl rfl
 rwa [setAt_self, setAt_self] at this
end
section
variable {R : RD} {w w' : World} {a : Nat} {d : Nds} {room us : Int} {lk up : Int -> Int}
theorem kvGet_del (l : Kv) (k j : Int) : kvGet (kvDel l k) j = if j = k then none else kvGet l j := by
 unfold kvGet kvDel
 induction l with
 | nil => simp
 | cons x l ih =>
   rw [List.filter_cons, List.find?_cons]
   by_cases e : x.1 = k
   ·simp only [e, decide_true, Bool.not_true, Bool.false_eq_true, if_false]
    rw [ih]
    by_cases e2 : j = k
    ·simp [e2]
    ·simp [e2, Ne.symm e2]
   ·simp only [e, decide_false, Bool.not_false, if_true, List.find?_cons]
    by_cases e3 : x.1 = j
    ·subst e3; simp [e]
    ·simp only [e3, decide_false]; exact ih
theorem kvDel_len {l : Kv} (hn : (l.map (·.1)).Nodup) {k : Int} {v : Value} (h : kvGet l k = some v) : (kvDel l k).length + 1 = l.length := by
 induction l with
 | nil => simp [kvGet] at h
 | cons x l ih =>
   rw [List.map_cons, List.nodup_cons] at hn
   by_cases e : x.1 = k
   ·have : kvDel (x :: l) k = l := by
     unfold kvDel
     rw [List.filter_cons]
     simp only [e, decide_true, Bool.not_true, Bool.false_eq_true, if_false]
     exact kvDel_none fun y hy e2 => hn.1 (List.mem_map.2 ⟨y, hy, e2.trans e.symm⟩)
    rw [this]; rfl
   ·have h1 : kvDel (x :: l) k = x :: kvDel l k := by simp [kvDel, List.filter_cons, e]
    have h2 : kvGet l k = some v := by simpa [kvGet, List.find?_cons, e] using h
    rw [h1, List.length_cons, List.length_cons, ih hn.2 h2]
theorem Rep.kill (h : Rep R w a d room us lk up) {i : Int} (hi : has d i) (k : Keeps (fun x => x = R.b) w w') (hm : IMap w' R.b (kvDel R.kv i)) :
 Rep { R with kv := kvDel R.kv i } w' a (kill d i) room us lk up := by
 have hA : ¬ a = R.b := fun e => by have := h.tagB; rw [<- e, h.tagA] at this; cases this
 have hc : ∀ j, w'.cell? ⟨a, j, none⟩ = w.cell? ⟨a, j, none⟩ := fun j => k.cell (p := ⟨a, j, none⟩) h.alt hA
 have hf : ∀ j, w'.frozen? ⟨a, j, none⟩ = w.frozen? ⟨a, j, none⟩ := fun j => k.frozen (p := ⟨a, j, none⟩) h.alt hA
 have hg : kvGet R.kv i = some (.pointer (some ⟨R.g i, 0, none⟩)) := by rw [h.get i, if_pos hi]
 have hl := kvDel_len h.map.nodup hg
 have hcnt := count_kill hi
 refine ⟨(hc 0).trans h.l, ?_, (hc 2).trans h.used, (hc 3).trans h.room, fun j => (hf j).trans (h.fz j), h.tagA, h.tagB, hm, fun j => ?_, ?_, fun j hj => h.tagN j ((has_kill hi).1 hj).2, fun j hj => h.tagD j ((has_kill hi).1 hj).2,
  fun j hj => h.tagE j ((has_kill hi).1 hj).2, fun j hj => ?_, fun x hx => h.top x (Nat.le_trans k.size hx)⟩
 ·rw [kill_length]; exact (hc 1).trans h.next
 ·show kvGet (kvDel R.kv i) j = _
  rw [kvGet_del]
  by_cases e : j = i
  ·subst e
   rw [if_pos rfl, if_neg (fun hh => ((has_kill hi).1 hh).1 rfl)]
  ·rw [if_neg e, h.get j]
   simp only [has_kill hi, e, ne_eq, not_false_eq_true, true_and]
 ·show (kvDel R.kv i).length = _
  have := h.len
  omega
 ·obtain ⟨h1, h2⟩ := (has_kill hi).1 hj
  rw [nd_kill hi, if_neg h1]
  refine (h.node j h2).keep k (fun e => ?_) (fun x hx e => ?_) (fun x hx e => ?_)
  ·have := h.tagN j h2; rw [e, h.tagB] at this; cases this
  ·have := h.tagD j h2 x hx; rw [e, h.tagB] at this; cases this
  ·have := h.tagE j h2 x hx; rw [e, h.tagB] at this; cases this
theorem nd_append (d : Nds) (n : Nd) (j : Int) : nd (d ++ [n]) j = if j = d.length then n else nd d j := by
 unfold nd
 by_cases h0 : 0 <= j
 ·rw [if_pos h0, if_pos h0]
  by_cases e : j = d.length
  ·subst e; simp
  ·rw [if_neg e]
   by_cases hl : j.toNat < d.length
   ·rw [List.getElem?_append_left hl]
   ·rw [List.getElem?_append_right (by omega), List.getElem?_eq_none (l := d) (by omega), List.getElem?_eq_none (by simp; omega)]
 ·rw [if_neg h0, if_neg h0, if_neg (by omega)]
theorem Rep.add (h : Rep R w a d room us lk up) (k : Keeps (fun x => x = a ∨ x = R.b) w w') {n : Nd} (hn : n.kind ≠ 0) {us' : Int} (g : Nat) (dv : Value) {lk' up' : Int}
 (h0 : w'.cell? ⟨a, 0, none⟩ = some (.map (some R.b))) (h1 : w'.cell? ⟨a, 1, none⟩ = some (.int .i64 ((d.length : Int) + 1))) (h2 : w'.cell? ⟨a, 2, none⟩ = some (.int .i64 us')) (h3 : w'.cell? ⟨a, 3, none⟩ = some (.int .i64 room))
 (hfz : ∀ j, w'.frozen? ⟨a, j, none⟩ = false) (hm : IMap w' R.b (R.kv ++ [((d.length : Int), .pointer (some ⟨g, 0, none⟩))])) (hg : w.heap.size <= g) (hd : ∀ x, dv.ownBlock = some x -> w.heap.size <= x ∧ x ≠ g)
 (hN : NodeAt w' g dv (.slice none 0 0) n lk' up') :
 ∃ R', Rep R' w' a (d ++ [n]) room us' (setAt lk d.length lk') (setAt up d.length up') ∧ Turn R w R' w' := by
 have hab : ¬ a = R.b := fun e => by have := h.tagB; rw [<- e, h.tagA] at this; cases this
 have hno : ¬ has d d.length := fun hh => by have := has_range hh; omega
 have hh : ∀ j, has (d ++ [n]) j ↔ j = d.length ∨ has d j := fun j => by
  unfold has
  rw [nd_append]
  split
  ·next e => subst e; exact ⟨fun _ => .inl rfl, fun _ => hn⟩
  ·next e => exact ⟨.inr, fun h => h.resolve_left e⟩
 have hcount : count (d ++ [n]) = count d + 1 := by
  unfold count
  rw [sumBy_append]
  have : here1 n = 1 := by unfold here1; rw [if_neg hn]
  rw [this]
 have hgl := hN.lt
 let T : Nat -> Tag := fun x => if x = g then .node d.length else if dv.ownBlock = some x then .data d.length else R.tag x
 have hT : ∀ x, x < w.heap.size -> T x = R.tag x := fun x hx => by
  show (if x = g then _ else _) = _
  rw [if_neg (by omega), if_neg (fun e => by have := (hd x e).1; omega)]
 have hdl : ∀ x, dv.ownBlock = some x -> x < w'.heap.size := hN.own.lt
 refine ⟨⟨R.b, R.kv ++ [((d.length : Int), .pointer (some ⟨g, 0, none⟩))], setAt R.g d.length g, setAt R.dv d.length dv, setAt R.ev d.length (.slice none 0 0), T⟩,
  ⟨h0, ?_, h2, h3, hfz, (hT a h.alt).trans h.tagA, (hT _ h.map.lt).trans h.tagB, hm, fun j => ?_, ?_, fun j hj => ?_, fun j hj x hx => ?_, fun j hj x hx => ?_, fun j hj => ?_, fun x hx => ?_⟩, ⟨k.mono (fun x _ hx => ?_), hT⟩⟩
 ·rw [List.length_append]; exact h1
 ·show kvGet (R.kv ++ _) j = _
  simp only [hh, kvGet, List.find?_append]
  have hgj := h.get j
  unfold kvGet at hgj
  by_cases e : j = d.length
  ·subst e
   rw [if_neg hno] at hgj
   rw [if_pos (.inl rfl), Option.map_eq_none_iff] at *
   rw [hgj]
   simp [setAt]
  ·have e' : ¬ (d.length : Int) = j := fun h => e h.symm
   simp only [e, false_or, List.find?_cons, e', decide_false, List.find?_nil, Option.or_none, hgj, setAt, if_false]
 ·show (R.kv ++ _).length = _
  rw [hcount, List.length_append, h.len]; rfl
 ·show T (setAt R.g d.length g j) = _
  by_cases e : j = d.length
  ·subst e; rw [setAt_same]; exact if_pos rfl
  ·rw [setAt_other e]
   have hj := ((hh j).1 hj).resolve_left e
   exact (hT _ (h.node j hj).lt).trans (h.tagN j hj)
 ·show T x = _
  by_cases e : j = d.length
  ·subst e
   have hx : dv.ownBlock = some x := by simpa only [setAt_same] using hx
   show (if x = g then _ else if dv.ownBlock = some x then _ else _) = _
   rw [if_neg (hd x hx).2, if_pos hx]
  ·have hx : (R.dv j).ownBlock = some x := by simpa only [setAt_other e] using hx
   have hj := ((hh j).1 hj).resolve_left e
   exact (hT _ ((h.node j hj).own.lt x hx)).trans (h.tagD j hj x hx)
 ·show T x = _
  by_cases e : j = d.length
  ·subst e
   have hx : (Value.slice none 0 0).ownBlock = some x := by simpa only [setAt_same] using hx
   simp [Value.ownBlock] at hx
  ·have hx : (R.ev j).ownBlock = some x := by simpa only [setAt_other e] using hx
   have hj := ((hh j).1 hj).resolve_left e
   exact (hT _ ((h.node j hj).dir.ownlt x hx)).trans (h.tagE j hj x hx)
 ·rw [nd_append]
  by_cases e : j = d.length
  ·subst e; simp only [setAt_same, if_true]; exact hN
  ·simp only [setAt_other e, e, if_false]
   have hj := ((hh j).1 hj).resolve_left e
   refine (h.node j hj).keep k (fun hx => ?_) (fun x hx hx' => ?_) (fun x hx hx' => ?_)
   ·have := h.tagN j hj; rcases hx with e | e <;> rw [e] at this
    ·rw [h.tagA] at this; cases this
    ·rw [h.tagB] at this; cases this
   ·have := h.tagD j hj x hx; rcases hx' with e | e <;> rw [e] at this
    ·rw [h.tagA] at this; cases this
    ·rw [h.tagB] at this; cases this
   ·have := h.tagE j hj x hx; rcases hx' with e | e <;> rw [e] at this
    ·rw [h.tagA] at this; cases this
    ·rw [h.tagB] at this; cases this
 ·show (if x = g then _ else if dv.ownBlock = some x then _ else _) = _
  have hx : w'.heap.size <= x := hx
  have := k.size
  rw [if_neg (by omega), if_neg (fun e => by have := hdl x e; omega)]
  exact h.top x (by omega)
 ·rcases hx with rfl | rfl
  ·exact h.fA
  ·exact h.fB
theorem Rep.tags (h : Rep R w a d room us lk up) (k : w.heap.size <= w'.heap.size) (t : Tag) : ∃ T : Nat -> Tag, (∀ x, x < w.heap.size -> T x = R.tag x) ∧ (∀ x, w'.heap.size <= x -> T x = .none) ∧ ∀ x, w.heap.size <= x -> x < w'.heap.size -> T x = t := by
 refine ⟨fun x => if w.heap.size <= x ∧ x < w'.heap.size then t else R.tag x, fun x hx => if_neg (by omega), fun x hx => ?_, fun x h1 h2 => if_pos ⟨h1, h2⟩⟩
 show (if _ then _ else _) = _
 rw [if_neg (by omega)]
 exact h.top x (by omega)
theorem Rep.setData (h : Rep R w a d room us lk up) {i : Int} (hi : has d i) {w1 : World} {v : Value} {s : ByteArray} (k : Keeps (fun x => (R.dv i).ownBlock = some x) w w1) (ho : OwnB (fun _ => True) w1 v s)
 (hv : ∀ x, v.ownBlock = some x -> (R.dv i).ownBlock = some x ∨ w.heap.size <= x) :
 ∃ R', Rep R' (w1.setCell ⟨R.g i, 4, none⟩ v) a (upd d i ((nd d i).setData s)) room us lk up ∧ Turn R w R' (w1.setCell ⟨R.g i, 4, none⟩ v) ∧ R'.g = R.g ∧ R'.b = R.b ∧ R'.dv i = v := by
 have hn := h.node i hi
 have hgd := h.dvne hi
 have hsz : (w1.setCell ⟨R.g i, 4, none⟩ v).heap.size = w1.heap.size := by simp [World.setCell]
 have hge : ∀ x, (R.ev i).ownBlock = some x -> ¬ (R.dv i).ownBlock = some x := fun x h1 h2 => by
  have := h.tagD i hi x h2; rw [h.tagE i hi x h1] at this; cases this
 have hgv : ¬ v.ownBlock = some (R.g i) := fun e => by
  rcases hv _ e with h1 | h1
  ·exact hgd h1
  ·have := hn.lt; omega
 have hev : ∀ x, (R.ev i).ownBlock = some x -> ¬ v.ownBlock = some x := fun x h1 h2 => by
  rcases hv x h2 with h3 | h3
  ·exact hge x h1 h3
  ·have := hn.dir.ownlt x h1; omega
 have k2 := keeps_set w1 ⟨R.g i, 4, none⟩ v
 have kk : Keeps (R.N i) w (w1.setCell ⟨R.g i, 4, none⟩ v) := Keeps.setCell (k.mono (fun x _ hx => .inr (.inl (h.tagD i hi x hx)))) (.inl (h.nN hi)) v
 have hc : ∀ j, w1.cell? ⟨R.g i, j, none⟩ = w.cell? ⟨R.g i, j, none⟩ := fun j => k.cell (p := ⟨R.g i, j, none⟩) hn.lt hgd
 have hf : ∀ j, w1.frozen? ⟨R.g i, j, none⟩ = w.frozen? ⟨R.g i, j, none⟩ := fun j => k.frozen (p := ⟨R.g i, j, none⟩) hn.lt hgd
 have hset : ∀ (j : Nat) (u : Value), j ≠ 4 -> w.cell? ⟨R.g i, j, none⟩ = some u -> (w1.setCell ⟨R.g i, 4, none⟩ v).cell? ⟨R.g i, j, none⟩ = some u := fun j u hj hu => by
  rw [cell_set ((hc j).trans hu), if_neg hj]
 have hap := hn.dir.apart
 have hN : NodeAt (w1.setCell ⟨R.g i, 4, none⟩ v) (R.g i) v (R.ev i) ((nd d i).setData s) (lk i) (up i) := by
  refine ⟨hset 0 _ (by decide) hn.kind, hset 1 _ (by decide) hn.mode, hset 2 _ (by decide) hn.links, hset 3 _ (by decide) hn.holds, ?_, ?_, ⟨hset 5 _ (by decide) hn.dir.cell, ?_, rfl, ?_, hn.dir.rising, hn.dir.names, hap⟩, hset 6 _ (by decide) hn.up, fun j => ?_⟩
  ·rw [cell_set ((hc 4).trans hn.data), if_pos rfl]
  ·exact ho.keep k2 (fun x hx e => by simp only at e; subst e; exact hgv hx)
  ·exact (frozen_set _ _ _ _).trans ((hf 5).trans (hn.fz 5))
  ·exact (hn.dir.own.keep k hge).keep k2 (fun x hx e => by simp only at e; subst e; exact hap hx)
  ·exact (frozen_set _ _ _ _).trans ((hf j).trans (hn.fz j))
 obtain ⟨T, hT, hT', hTn⟩ := h.tags kk.size (.data i)
 have hR := h.turn hi kk v (R.ev i) T hT hT' (fun x hx => ?_) (fun x hx => (hT x (hn.dir.ownlt x hx)).trans (h.tagE i hi x hx)) (n := (nd d i).setData s) hi hN
 ·simp only [setAt_self] at hR
  exact ⟨_, hR, ⟨kk.mono (fun x _ hx => hx.F), hT⟩, rfl, rfl, setAt_same _ _ _⟩
 ·rcases hv x hx with h1 | h1
  ·exact (hT x (hn.own.lt x h1)).trans (h.tagD i hi x h1)
  ·exact hTn x h1 (by rw [hsz]; exact ho.lt x hx)
theorem Rep.overData (h : Rep R w a d room us lk up) {i : Int} (hi : has d i) {s : ByteArray} (k : Keeps (fun x => (R.dv i).ownBlock = some x) w w') (ho : OwnB (fun _ => True) w' (R.dv i) s) :
 Rep R w' a (upd d i ((nd d i).setData s)) room us lk up := by
 have hn := h.node i hi
 have hgd := h.dvne hi
 have hge : ∀ x, (R.ev i).ownBlock = some x -> ¬ (R.dv i).ownBlock = some x := fun x h1 h2 => by
  have := h.tagD i hi x h2; rw [h.tagE i hi x h1] at this; cases this
 have hc : ∀ j, w'.cell? ⟨R.g i, j, none⟩ = w.cell? ⟨R.g i, j, none⟩ := fun j => k.cell (p := ⟨R.g i, j, none⟩) hn.lt hgd
 have hf : ∀ j, w'.frozen? ⟨R.g i, j, none⟩ = w.frozen? ⟨R.g i, j, none⟩ := fun j => k.frozen (p := ⟨R.g i, j, none⟩) hn.lt hgd
 have hN : NodeAt w' (R.g i) (R.dv i) (R.ev i) ((nd d i).setData s) (lk i) (up i) :=
  ⟨(hc 0).trans hn.kind, (hc 1).trans hn.mode, (hc 2).trans hn.links, (hc 3).trans hn.holds, (hc 4).trans hn.data, ho, hn.dir.keep k hgd hge, (hc 6).trans hn.up, fun j => (hf j).trans (hn.fz j)⟩
 have hR := h.turn hi (k.mono (fun x _ hx => .inr (.inl (h.tagD i hi x hx)))) (R.dv i) (R.ev i) R.tag (fun _ _ => rfl) (fun x hx => h.top x (Nat.le_trans k.size hx)) (h.tagD i hi) (h.tagE i hi) (n := (nd d i).setData s) hi hN
 rwa [setAt_self, setAt_self, setAt_self, setAt_self] at hR
theorem Rep.setDir (h : Rep R w a d room us lk up) {i : Int} (hi : has d i) {es : List Ent} (hd : DTo w w' ⟨R.g i, 5, none⟩ (R.ev i) es) :
 ∃ R', Rep R' w' a (upd d i ((nd d i).setEnts es)) room us lk up ∧ Turn R w R' w' ∧ R'.g = R.g ∧ R'.b = R.b := by
 obtain ⟨v, hI, k, hv⟩ := hd
 have hn := h.node i hi
 have hgd := h.dvne hi
 have hap := hn.dir.apart
 have hsz : (w.setCell ⟨R.g i, 5, none⟩ v).heap.size = w.heap.size := by simp [World.setCell]
 have hde : ∀ x, (R.dv i).ownBlock = some x -> ¬ (R.ev i).ownBlock = some x := fun x h1 h2 => by
  have := h.tagE i hi x h2; rw [h.tagD i hi x h1] at this; cases this
 have hap' : ¬ (R.ev i).ownBlock = some (R.g i) := hap
 have k0 := keeps_set w ⟨R.g i, 5, none⟩ v
 have hlt := hn.lt
 have hc : ∀ (j : Nat) (u : Value), j ≠ 5 -> w.cell? ⟨R.g i, j, none⟩ = some u -> w'.cell? ⟨R.g i, j, none⟩ = some u := fun j u hj hu => by
  rw [k.cell (p := ⟨R.g i, j, none⟩) (by rw [hsz]; exact hlt) hap', cell_set hu, if_neg hj]
 have hf : ∀ j, w'.frozen? ⟨R.g i, j, none⟩ = w.frozen? ⟨R.g i, j, none⟩ := fun j => (k.frozen (p := ⟨R.g i, j, none⟩) (by rw [hsz]; exact hlt) hap').trans (frozen_set _ _ _ _)
 have kk : Keeps (R.N i) w w' := (Keeps.setCell (p := ⟨R.g i, 5, none⟩) (Keeps.refl (R.N i) w) (.inl (h.nN hi)) v).step k (fun x hx => .inl (.inr (.inr (h.tagE i hi x hx))))
 have hN : NodeAt w' (R.g i) (R.dv i) v ((nd d i).setEnts es) (lk i) (up i) :=
  ⟨hc 0 _ (by decide) hn.kind, hc 1 _ (by decide) hn.mode, hc 2 _ (by decide) hn.links, hc 3 _ (by decide) hn.holds, hc 4 _ (by decide) hn.data,
    (hn.own.keep k0 (fun x hx e => by simp only at e; subst e; exact hgd hx)).keep k hde, hI, hc 6 _ (by decide) hn.up, fun j => (hf j).trans (hn.fz j)⟩
 obtain ⟨T, hT, hT', hTn⟩ := h.tags kk.size (.dir i)
 have hR := h.turn hi kk (R.dv i) v T hT hT' (fun x hx => (hT x (hn.own.lt x hx)).trans (h.tagD i hi x hx)) (fun x hx => ?_) (n := (nd d i).setEnts es) hi hN
 ·simp only [setAt_self] at hR
  exact ⟨_, hR, ⟨kk.mono (fun x _ hx => hx.F), hT⟩, rfl, rfl⟩
 ·rcases hv x hx with h1 | h1
  ·exact (hT x (hn.dir.ownlt x h1)).trans (h.tagE i hi x h1)
  ·exact hTn x h1 (hI.ownlt x hx)
def nodeV (R : RD) (d : Nds) (i : Int) : Value := if has d i then .pointer (some ⟨R.g i, 0, none⟩) else .pointer none
theorem Rep.look (h : Rep R w a d room us lk up) (i : Int) : (Instr.lookup 78 (.map (some R.b)) (.int .i64 i) false).run Tryz.prog w = .ok (nodeV R d i) w := by
 have hz : (zeroValue 77).run Tryz.prog w = .ok (.pointer none) w := by kernel_rfl
 have := h.map.lookup (P := Tryz.prog) Tryz.underlying78 Tryz.underlying3 hz i
 rw [this, h.get i]
 unfold nodeV
 split <;> rfl
end
def UpOk (d : Nds) (lk up : Int -> Int) : Prop := ∀ i, has d i -> (∀ j, Par d j i -> up i = j) ∧ (i = 1 -> up i = 1) ∧ (lk i = 0 -> up i = 0)
def PG (d : Nds) (pend : Int -> Nat) (i : Int) : Prop := has d i ∧ links d i = 0 ∧ pend i = 0 ∧ (nd d i).holds = 0
def smallD (d : Nds) : Prop := mass d <= 2147483648
structure Casc (R : RD) (w : World) (a : Nat) (d : Nds) (room : Int) (lk up : Int -> Int) (pend : Int -> Nat) : Prop where
 rep : Rep R w a d room (used d) lk up
 inv : DInv d
 cnt : ∀ i, has d i -> lk i = ((links d i + pend i : Nat) : Int)
 pres : ∀ i, 0 < pend i -> has d i
 upok : UpOk d lk up
 small : smallD d
 lkb : ∀ i, has d i -> lk i <= 4611686018427387904
theorem nd_ents_len {d : Nds} (h : smallD d) (i : Int) : (nd d i).ents.length < 4294967295 := by
 by_cases hh : 0 <= i ∧ i.toNat < d.length
 ·have h1 := sumBy_ge mass1 hh.1 hh.2
  unfold smallD mass at h
  unfold mass1 at h h1
  omega
 ·rw [nd_gone hh]; decide
theorem Par.links {d : Nds} {j i : Int} (h : Par d j i) : 0 < links d i := by
 obtain ⟨_, e, he, h2⟩ := h
 have := cnt_pos.2 ⟨j, e, he, h2⟩
 unfold Go.Proofs.YtimidmogcbapnaaGreatDoor.links
 omega
section
variable {R R' : RD} {w w' : World} {a : Nat} {d : Nds} {room : Int} {lk up : Int -> Int} {pend : Int -> Nat} {i : Int}
theorem PG.garb (h : PG d pend i) : Garb d i := ⟨h.1, h.2.1, h.2.2.2⟩
theorem Casc.keep {F : Nat -> Prop} (h : Casc R w a d room lk up pend) (k : Keeps F w w') (hF : ∀ x, x < w.heap.size -> F x -> R.tag x = .none) : Casc R w' a d room lk up pend :=
 ⟨h.rep.keep k hF, h.inv, h.cnt, h.pres, h.upok, h.small, h.lkb⟩
theorem Casc.kill (h : Casc R w a d room lk up pend) (hp : PG d pend i) (rep : Rep R' w' a (kill d i) room (used (kill d i)) lk up) :
 Casc R' w' a (Go.Proofs.YtimidmogcbapnaaGreatDoor.kill d i) room lk up (fun j => pend j + namesOf j (nd d i)) := by
 have hi := hp.1
 refine ⟨rep, h.inv.kill hp.garb, fun j hj => ?_, fun j hj => ?_, fun j hj => ?_, ?_, fun j hj => h.lkb j ((has_kill hi).1 hj).2⟩
 ·have := h.cnt j ((has_kill hi).1 hj).2
  have := links_kill hi j
  omega
 ·refine (has_kill hi).2 ?_
  by_cases h1 : 0 < pend j
  ·exact ⟨fun e => by subst e; have := hp.2.2.1; omega, h.pres j h1⟩
  ·obtain ⟨e, he, h2⟩ := namesOf_pos.1 (by omega : 0 < namesOf j (nd d i))
   have := (h.inv.tgt i e he).1
   rw [h2] at this
   refine ⟨fun e1 => ?_, this⟩
   subst e1
   have := cnt_pos.2 ⟨j, e, he, h2⟩
   have := hp.2.1
   unfold links at this
   omega
 ·obtain ⟨h1, h2, h3⟩ := h.upok j ((has_kill hi).1 hj).2
  refine ⟨fun k hk => h1 k ?_, h2, h3⟩
  obtain ⟨hk1, e, he, hk2⟩ := hk
  rw [nd_kill hi, if_neg ((has_kill hi).1 hj).1] at hk1
  rw [nd_kill hi] at he
  split at he
  ·cases he
  ·exact ⟨hk1, e, he, hk2⟩
 ·have := mass_kill hi
  have := h.small
  unfold smallD at *
  omega
theorem PG.of_kill (hi : has d i) {j : Int} (h : PG (kill d i) (fun j => pend j + namesOf j (nd d i)) j) : PG d pend j ∧ j ≠ i := by
 obtain ⟨h1, h2, h3, h4⟩ := h
 obtain ⟨h5, h6⟩ := (has_kill hi).1 h1
 rw [nd_kill hi, if_neg h5] at h4
 have := links_kill hi j
 refine ⟨⟨h6, ?_, ?_, h4⟩, h5⟩ <;> simp only at h3 <;> omega
def decAt (p : Int -> Nat) (i : Int) : Int -> Nat := fun j => if j = i then p j - 1 else p j
theorem Casc.dec (h : Casc R w a d room lk up pend) (hp : 0 < pend i) {up' : Int -> Int} (rep : Rep R w' a d room (used d) (setAt lk i (lk i - 1)) up') (hup : up' = if lk i - 1 = 0 then setAt up i 0 else up) :
 Casc R w' a d room (setAt lk i (lk i - 1)) up' (decAt pend i) := by
 have hi := h.pres i hp
 have hc := h.cnt i hi
 refine ⟨rep, h.inv, fun j hj => ?_, fun j hj => ?_, fun j hj => ?_, h.small, fun j hj => ?_⟩
 ·have := h.cnt j hj
  unfold setAt decAt
  split
  ·next e => subst e; omega
  ·exact this
 ·unfold decAt at hj
  split at hj
  ·next e => subst e; exact hi
  ·exact h.pres j hj
 ·obtain ⟨h1, h2, h3⟩ := h.upok j hj
  subst hup
  by_cases e : j = i
  ·subst e
   rw [setAt_same]
   split
   ·next hz =>
    rw [setAt_same]
    refine ⟨fun k hk => ?_, fun e1 => ?_, fun _ => rfl⟩
    ·have := hk.links; omega
    ·subst e1; unfold links at hc; simp at hc; omega
   ·next hz => exact ⟨h1, h2, fun h => absurd h hz⟩
  ·rw [setAt_other e]
   have : (if lk i - 1 = 0 then setAt up i 0 else up) j = up j := by
    split
    ·exact setAt_other e
    ·rfl
   rw [this]
   exact ⟨h1, h2, h3⟩
 ·have := h.lkb j hj
  unfold setAt
  split
  ·next e => subst e; omega
  ·exact this
theorem PG.of_dec (hn : ∀ j, ¬ PG d pend j) {j : Int} (h : PG d (decAt pend i) j) : j = i := by
 by_cases e : j = i
 ·exact e
 ·obtain ⟨h1, h2, h3, h4⟩ := h
  unfold decAt at h3
  rw [if_neg e] at h3
  exact absurd ⟨h1, h2, h3, h4⟩ (hn j)
end
theorem Kills.count_le {d d' : Nds} (k : Kills d d') : count d' <= count d := by
 induction k with
 | refl => exact Nat.le_refl _
 | step i hi _ ih =>
   have := count_kill hi.1
   omega
def pendL (pend : Int -> Nat) (l : List Ent) : Int -> Nat := fun j => pend j + l.countP fun e => decide (e.2 = j)
theorem pendL_nil (pend : Int -> Nat) : pendL pend [] = pend := by funext j; simp [pendL]
theorem decAt_pendL (pend : Int -> Nat) (x : Ent) (l : List Ent) : decAt (pendL pend (x :: l)) x.2 = pendL pend l := by
 funext j
 unfold decAt pendL
 rw [List.countP_cons]
 by_cases e : j = x.2
 ·subst e; simp
 ·rw [if_neg e]
  have : ¬ x.2 = j := fun h => e h.symm
  simp [this]
def FreePost (R : RD) (w : World) (a : Nat) (d : Nds) (room : Int) (pend : Int -> Nat) : Ending -> World -> Prop := fun e w' =>
 e = .returned (.tuple #[]) ∧ ∃ R' d' lk' up', Casc R' w' a d' room lk' up' pend ∧ (∀ j, ¬ PG d' pend j) ∧ Kills d d' ∧ Turn R w R' w'
def FreeOk (n : Nat) : Prop := ∀ R w a d room lk up pend i, count d = n -> Casc R w a d room lk up pend -> has d i -> (∀ j, PG d pend j -> j = i) ->
 Calls Tryz.prog 56 #[.pointer (some ⟨a, 0, none⟩), .int .i64 i] w (FreePost R w a d room pend)
def LessOk (n : Nat) : Prop := ∀ R w a d room lk up pend i, count d = n -> Casc R w a d room lk up pend -> 0 < pend i -> (∀ j, ¬ PG d pend j) ->
 Calls Tryz.prog 93 #[.pointer (some ⟨a, 0, none⟩), .int .i64 i] w (FreePost R w a d room (decAt pend i))
section
variable {d : Nds} {i : Int} {n : Nd}
theorem has_upd (hi : has d i) (hn : n.kind ≠ 0) (j : Int) : has (upd d i n) j ↔ has d j := by
 have hr := has_range hi
 unfold has
 rw [nd_upd hr.1 hr.2]
 split
 ·next e => subst e; exact ⟨fun _ => hi, fun _ => hn⟩
 ·rfl
theorem links_upd (hi : has d i) (j : Int) : links (upd d i n) j + namesOf j (nd d i) = links d j + namesOf j n := by
 have hr := has_range hi
 have := sumBy_upd (namesOf j) hr.1 hr.2 n
 unfold links cnt
 omega
theorem links_same (hi : has d i) (he : n.ents = (nd d i).ents) (j : Int) : links (upd d i n) j = links d j := by
 have := links_upd (n := n) hi j
 have : namesOf j n = namesOf j (nd d i) := by unfold namesOf; rw [he]
 omega
theorem used_upd (hi : has d i) : used (upd d i n) + room1 (nd d i) = used d + room1 n := by
 have hr := has_range hi
 exact sumBy_upd room1 hr.1 hr.2 n
theorem mass_upd (hi : has d i) : mass (upd d i n) + mass1 (nd d i) = mass d + mass1 n := by
 have hr := has_range hi
 exact sumBy_upd mass1 hr.1 hr.2 n
theorem links_le (d : Nds) (i : Int) : links d i <= 1 + mass d := by
 have h : cnt d i <= mass d := by
  induction d with
  | nil => simp [cnt, sumBy]
  | cons a d ih =>
    simp only [cnt, mass, sumBy, List.map_cons, List.sum_cons] at ih ⊢
    have : namesOf i a <= mass1 a := by
     unfold namesOf mass1
     have := List.countP_le_length (p := fun e : Ent => decide (e.2 = i)) (l := a.ents)
     omega
    omega
 unfold links
 split <;> omega
theorem par_same (hi : has d i) (hk : n.kind = (nd d i).kind) (he : n.ents = (nd d i).ents) (j k : Int) : Par (upd d i n) j k ↔ Par d j k := by
 have hr := has_range hi
 unfold Par
 rw [nd_upd hr.1 hr.2, nd_upd hr.1 hr.2]
 by_cases e1 : k = i <;> by_cases e2 : j = i
 ·subst e1; subst e2; simp [hk, he]
 ·subst e1; simp [hk, e2]
 ·subst e2; simp [he, e1]
 ·simp [e1, e2]
theorem DInv.upd (h : DInv d) (hi : has d i) (hok : NdOk n) (hk : n.kind = (nd d i).kind) (he : n.ents = (nd d i).ents) : DInv (upd d i n) := by
 have hr := has_range hi
 have hpos := h.pos hi
 have hk0 : n.kind ≠ 0 := by rw [hk]; exact hi
 have hkind : ∀ j, (nd (Go.Proofs.YtimidmogcbapnaaGreatDoor.upd d i n) j).kind = (nd d j).kind := fun j => by
  rw [nd_upd hr.1 hr.2]
  split
  ·next e => subst e; exact hk
  ·rfl
 have hents : ∀ j, (nd (Go.Proofs.YtimidmogcbapnaaGreatDoor.upd d i n) j).ents = (nd d j).ents := fun j => by
  rw [nd_upd hr.1 hr.2]
  split
  ·next e => subst e; exact he
  ·rfl
 refine ⟨by rw [upd_length]; exact h.two, ?_, ?_, fun j => ?_, fun j e hj => ?_, fun j hj => ?_, fun j => ?_⟩
 ·rw [nd_upd hr.1 hr.2, if_neg (by omega)]; exact h.zero
 ·rw [hkind]; exact h.root
 ·rw [nd_upd hr.1 hr.2]
  split
  ·exact hok
  ·exact h.node j
 ·rw [hents] at hj
  exact ⟨(has_upd hi hk0 _).2 (h.tgt j e hj).1, (h.tgt j e hj).2⟩
 ·rw [hkind] at hj
  rw [links_same hi he]
  exact h.single j hj
 ·have := h.acyc j
  induction this with
  | intro j _ ih => exact ⟨j, fun k hk' => ih k ((par_same hi hk he k j).1 hk')⟩
end
def zp : Int -> Nat := fun _ => 0
theorem noPG_zp {d : Nds} : (∀ j, ¬ PG d zp j) ↔ NoGarb d :=
 ⟨fun h j hj => h j ⟨hj.1, hj.2.1, rfl, hj.2.2⟩, fun h j hj => h j hj.garb⟩
structure IsDisk (R : RD) (w : World) (a : Nat) (d : Nds) (room : Int) : Prop where
 casc : ∃ lk up, Casc R w a d room lk up zp
 clean : NoGarb d
 fits : (used d : Int) <= room
 max : room <= 9223372036854775807
section
variable {R R' : RD} {w w' : World} {a : Nat} {d d' : Nds} {room : Int}
theorem IsDisk.inv (h : IsDisk R w a d room) : DInv d := by obtain ⟨lk, up, hc⟩ := h.casc; exact hc.inv
theorem IsDisk.small (h : IsDisk R w a d room) : smallD d := by obtain ⟨lk, up, hc⟩ := h.casc; exact hc.small
theorem IsDisk.keep {F : Nat -> Prop} (h : IsDisk R w a d room) (k : Keeps F w w') (hF : ∀ x, x < w.heap.size -> F x -> R.tag x = .none) : IsDisk R w' a d room := by
 obtain ⟨⟨lk, up, hc⟩, h1, h2, h3⟩ := h
 exact ⟨⟨lk, up, hc.keep k hF⟩, h1, h2, h3⟩
theorem IsDisk.keepN (h : IsDisk R w a d room) (k : Keeps NoB w w') : IsDisk R w' a d room := h.keep k (fun _ _ h => h.elim)
theorem Kills.used {d d' : Nds} (k : Kills d d') : used d' <= used d := by
 induction k with
 | refl => exact Nat.le_refl _
 | step i hi _ ih => have := used_kill hi.1; omega
theorem Kills.smallD {d d' : Nds} (k : Kills d d') (h : smallD d) : smallD d' := by
 have := k.mass
 unfold Go.Proofs.YtimidmogcbapnaaGreatDoor.smallD at *
 omega
def DiskTo (R : RD) (w : World) (a : Nat) (d' : Nds) (room : Int) (w' : World) : Prop := ∃ R', IsDisk R' w' a d' room ∧ Turn R w R' w'
theorem IsDisk.same (h : IsDisk R w a d room) (k : Keeps NoB w w') : DiskTo R w a d room w' := ⟨R, h.keepN k, Turn.ofN k⟩
theorem DiskTo.on (h : DiskTo R w a d room w') {w'' : World} (k : Keeps NoB w' w'') : DiskTo R w a d room w'' := by
 obtain ⟨R', h1, h2⟩ := h
 exact ⟨R', h1.keepN k, h2.trans (Turn.ofN k)⟩
theorem DiskTo.drew (h : DiskTo R w a d room w') : DiskTo R w a d room w'.drew := h.on ((Keeps.refl _ _).drew)
theorem DiskTo.after {w0 : World} (k : Keeps NoB w0 w) (h : DiskTo R w a d room w') : DiskTo R w0 a d room w' := by
 obtain ⟨R', h1, h2⟩ := h
 exact ⟨R', h1, (Turn.ofN k).trans h2⟩
theorem free_end {lk' up' : Int -> Int} (h : Casc R' w' a d' room lk' up' zp) (hn : ∀ j, ¬ PG d' zp j) (hk : Kills d d') (hf : (used d : Int) <= room) (hm : room <= 9223372036854775807) : IsDisk R' w' a (gc d) room := by
 have hn' := noPG_zp.1 hn
 rw [gc_eq hk hn']
 have := hk.used
 exact ⟨⟨lk', up', h⟩, hn', by omega, hm⟩
theorem Casc.upd {lk up : Int -> Int} {pend : Int -> Nat} {i : Int} {n : Nd} (h : Casc R w a d room lk up pend) (hi : has d i) (hok : NdOk n) (hk : n.kind = (nd d i).kind) (he : n.ents = (nd d i).ents)
 (rep : Rep R' w' a (Go.Proofs.YtimidmogcbapnaaGreatDoor.upd d i n) room (used (Go.Proofs.YtimidmogcbapnaaGreatDoor.upd d i n)) lk up) (hs : Go.Proofs.YtimidmogcbapnaaGreatDoor.smallD (Go.Proofs.YtimidmogcbapnaaGreatDoor.upd d i n)) : Casc R' w' a (Go.Proofs.YtimidmogcbapnaaGreatDoor.upd d i n) room lk up pend := by
 have hk0 : n.kind ≠ 0 := by rw [hk]; exact hi
 refine ⟨rep, h.inv.upd hi hok hk he, fun j hj => ?_, fun j hj => (has_upd hi hk0 j).2 (h.pres j hj), fun j hj => ?_, hs, fun j hj => h.lkb j ((has_upd hi hk0 j).1 hj)⟩
 ·rw [links_same hi he]; exact h.cnt j ((has_upd hi hk0 j).1 hj)
 ·obtain ⟨h1, h2, h3⟩ := h.upok j ((has_upd hi hk0 j).1 hj)
  exact ⟨fun k hk' => h1 k ((par_same hi hk he k j).1 hk'), h2, h3⟩
end
set_option maxRecDepth 100000
set_option maxHeartbeats 1000000
section
variable {R : RD} {w : World} {a : Nat} {d : Nds} {room us : Int} {lk up : Int -> Int}
def folderErr (d : Nds) (i : Int) : Int := if (nd d i).kind = 0 then 12 else if (nd d i).kind = 2 then 0 else 14
def fileErr (d : Nds) (i : Int) : Int := if (nd d i).kind = 0 then 12 else if (nd d i).kind = 2 then 15 else if (nd d i).kind = 1 then 0 else 43
def dataErr (d : Nds) (i : Int) : Int := if (nd d i).kind = 0 then 12 else if (nd d i).kind = 2 then 15 else 0
def dataOf (d : Nds) (i : Int) : ByteArray := if (nd d i).kind = 0 then ⟨#[]⟩ else if (nd d i).kind = 2 then ⟨#[]⟩ else (nd d i).data
def ptrIf (R : RD) (e i : Int) : Value := if e = 0 then .pointer (some ⟨R.g i, 0, none⟩) else .pointer none
def okMode (m : Int) : Bool := decide (0 <= m) && decide (m <= 4095)
theorem not_has {d : Nds} {i : Int} (h : ¬ has d i) : (nd d i).kind = 0 := by simpa [has] using h
theorem folder_any (h : Rep R w a d room us lk up) (i : Int) :
 Calls Tryz.prog 88 #[.pointer (some ⟨a, 0, none⟩), .int .i64 i] w fun e w' => e = .returned (.tuple #[ptrIf R (folderErr d i) i, .int .i64 (folderErr d i)]) ∧ w = w' := by
 have hl := h.l
 have hlook := h.look i
 unfold nodeV at hlook
 unfold folderErr
 by_cases hi : has d i
 ·rw [if_pos hi] at hlook
  have hk := (h.node i hi).kind
  have hi0 : ¬ (nd d i).kind = 0 := hi
  rw [if_neg hi0]
  generalize (nd d i).kind = kd at hk
  by_cases h2 : kd = 2
  ·rw [if_pos h2]
   subst h2
   go_enter Tryz.func88, Tryz.ntmps88
   go_wp2
   go_ret2
   exact ⟨rfl, rfl⟩
  ·rw [if_neg h2]
   go_enter Tryz.func88, Tryz.ntmps88
   go_wp2
   go_ret2
   exact ⟨rfl, rfl⟩
 ·rw [if_neg hi] at hlook
  rw [if_pos (not_has hi)]
  go_enter Tryz.func88, Tryz.ntmps88
  go_wp2
  go_ret2
  exact ⟨rfl, rfl⟩
theorem file_any (h : Rep R w a d room us lk up) (i : Int) :
 Calls Tryz.prog 54 #[.pointer (some ⟨a, 0, none⟩), .int .i64 i] w fun e w' => e = .returned (.tuple #[ptrIf R (fileErr d i) i, .int .i64 (fileErr d i)]) ∧ w = w' := by
 have hl := h.l
 have hlook := h.look i
 unfold nodeV at hlook
 unfold fileErr
 by_cases hi : has d i
 ·rw [if_pos hi] at hlook
  have hk := (h.node i hi).kind
  have hi0 : ¬ (nd d i).kind = 0 := hi
  rw [if_neg hi0]
  generalize (nd d i).kind = kd at hk
  by_cases h2 : kd = 2
  ·rw [if_pos h2]
   subst h2
   go_enter Tryz.func54, Tryz.ntmps54
   go_wp2
   go_ret2
   exact ⟨rfl, rfl⟩
  ·rw [if_neg h2]
   by_cases h1 : kd = 1
   ·rw [if_pos h1]
    subst h1
    go_enter Tryz.func54, Tryz.ntmps54
    go_wp2
    go_ret2
    exact ⟨rfl, rfl⟩
   ·rw [if_neg h1]
    go_enter Tryz.func54, Tryz.ntmps54
    go_wp2
    go_ret2
    exact ⟨rfl, rfl⟩
 ·rw [if_neg hi] at hlook
  rw [if_pos (not_has hi)]
  go_enter Tryz.func54, Tryz.ntmps54
  go_wp2
  go_ret2
  exact ⟨rfl, rfl⟩
theorem right_any (m : Int) (w : World) : Calls Tryz.prog 57 #[.int .i64 m] w fun e w' => e = .returned (.bool (okMode m)) ∧ w = w' := by
 go_enter Tryz.func57, Tryz.ntmps57
 go_wp2
 all_goals
  go_ret
  exact ⟨ret_bool (by simp [okMode, *] <;> omega), rfl⟩
theorem data_any (h : Rep R w a d room us lk up) (i : Int) :
 Calls Tryz.prog 14 #[.pointer (some ⟨a, 0, none⟩), .int .i64 i] w fun e w' => e = .returned (.tuple #[.string (dataOf d i), .int .i64 (dataErr d i)]) ∧ w = w' := by
 have hl := h.l
 have hlook := h.look i
 unfold nodeV at hlook
 unfold dataErr dataOf
 by_cases hi : has d i
 ·rw [if_pos hi] at hlook
  have hn := h.node i hi
  have hk := hn.kind
  have hd := hn.data
  have hconv := hn.own.str (P := Tryz.prog) 81 9 5 Tryz.underlying81 Tryz.underlying5 Tryz.underlying9
  have hi0 : ¬ (nd d i).kind = 0 := hi
  rw [if_neg hi0, if_neg hi0]
  obtain ⟨p, cap, hv⟩ := hn.own.form
  rw [hv] at hd hconv
  generalize (nd d i).data = s at hd hconv
  generalize (nd d i).kind = kd at hk
  by_cases h2 : kd = 2
  ·rw [if_pos h2, if_pos h2]
   subst h2
   go_enter Tryz.func14, Tryz.ntmps14
   go_wp2
   go_ret2
   exact ⟨rfl, rfl⟩
  ·rw [if_neg h2, if_neg h2]
   go_enter Tryz.func14, Tryz.ntmps14
   go_wp2
   go_ret2
   exact ⟨rfl, rfl⟩
 ·rw [if_neg hi] at hlook
  rw [if_pos (not_has hi), if_pos (not_has hi)]
  go_enter Tryz.func14, Tryz.ntmps14
  go_wp2
  go_ret2
  exact ⟨rfl, rfl⟩
def lookErr (d : Nds) (i : Int) (name : ByteArray) : Int := if folderErr d i ≠ 0 then folderErr d i else if (entGet (nd d i).ents name).isSome then 0 else 12
def lookOf (d : Nds) (i : Int) (name : ByteArray) : Int := if folderErr d i ≠ 0 then 0 else (entGet (nd d i).ents name).getD 0
theorem folderErr_zero {d : Nds} {i : Int} (h : folderErr d i = 0) : has d i ∧ (nd d i).kind = 2 := by
 unfold folderErr at h
 split at h
 ·cases h
 ·next h0 =>
  split at h
  ·next h2 => exact ⟨h0, h2⟩
  ·cases h
theorem look_any (h : Rep R w a d room us lk up) (i : Int) (name : ByteArray) (hn : (nd d i).ents.length < 4294967295) :
 Calls Tryz.prog 87 #[.pointer (some ⟨a, 0, none⟩), .int .i64 i, .string name] w fun e w' => e = .returned (.tuple #[.int .i64 (lookOf d i name), .int .i64 (lookErr d i name)]) ∧ Keeps NoB w w' := by
 have hf := folder_any h i
 unfold lookOf lookErr
 by_cases he : folderErr d i = 0
 ·have hi := (folderErr_zero he).1
  have hget := get_any (fun _ => True) w ⟨R.g i, 5, none⟩ (R.ev i) (nd d i).ents name ((h.node i hi).dir.any (fun _ _ => trivial)) (by omega)
  rw [he] at hf ⊢
  have hp : ptrIf R 0 i = .pointer (some ⟨R.g i, 0, none⟩) := rfl
  rw [hp] at hf
  cases hg : entGet (nd d i).ents name with
  | none =>
    rw [hg] at hget
    go_enter Tryz.func87, Tryz.ntmps87
    go_wp2_with (first | (go_at_call 88; refine hf.mono ?_; rintro e w1 ⟨rfl, rfl⟩) | (go_at_call 120; refine hget.mono ?_; rintro e w1 ⟨rfl, hk⟩))
    go_ret2
    exact ⟨rfl, hk⟩
  | some k =>
    rw [hg] at hget
    go_enter Tryz.func87, Tryz.ntmps87
    go_wp2_with (first | (go_at_call 88; refine hf.mono ?_; rintro e w1 ⟨rfl, rfl⟩) | (go_at_call 120; refine hget.mono ?_; rintro e w1 ⟨rfl, hk⟩))
    go_ret2
    exact ⟨rfl, hk⟩
 ·simp only [ne_eq, he, not_false_eq_true, if_true]
  have hp : ptrIf R (folderErr d i) i = .pointer none := if_neg he
  rw [hp] at hf
  generalize folderErr d i = er at hf he
  go_enter Tryz.func87, Tryz.ntmps87
  go_wp2_with (go_at_call 88; refine hf.mono ?_; rintro e w1 ⟨rfl, rfl⟩)
  go_ret2
  exact ⟨rfl, Keeps.refl _ _⟩
theorem listD_any (h : Rep R w a d room us lk up) (i : Int) (hn : (nd d i).ents.length < 4294967295) :
 Calls Tryz.prog 95 #[.pointer (some ⟨a, 0, none⟩), .int .i64 i] w fun e w' => ∃ v, e = .returned (.tuple #[v, .int .i64 (folderErr d i)]) ∧ Own encEnt 133 (fun g => w.heap.size <= g) w' v (if folderErr d i = 0 then (nd d i).ents else []) ∧ Keeps NoB w w' := by
 have hf := folder_any h i
 by_cases he : folderErr d i = 0
 ·have hi := (folderErr_zero he).1
  have hlist := list_any (fun _ => True) w ⟨R.g i, 5, none⟩ (R.ev i) (nd d i).ents ((h.node i hi).dir.any (fun _ _ => trivial)) (by omega)
  rw [he] at hf ⊢
  rw [if_pos rfl]
  have hp : ptrIf R 0 i = .pointer (some ⟨R.g i, 0, none⟩) := rfl
  rw [hp] at hf
  go_enter Tryz.func95, Tryz.ntmps95
  go_wp2_with (first | (go_at_call 88; refine hf.mono ?_; rintro e w1 ⟨rfl, rfl⟩) | (go_at_call 92; refine hlist.mono ?_; rintro e w1 ⟨v, rfl, ho, hk⟩))
  go_ret2
  exact ⟨v, rfl, ho, hk⟩
 ·rw [if_neg he]
  have hp : ptrIf R (folderErr d i) i = .pointer none := if_neg he
  rw [hp] at hf
  generalize folderErr d i = er at hf he
  go_enter Tryz.func95, Tryz.ntmps95
  go_wp2_with (go_at_call 88; refine hf.mono ?_; rintro e w1 ⟨rfl, rfl⟩)
  go_ret2
  exact ⟨_, rfl, Own.nil _ _ _ _, Keeps.refl _ _⟩
theorem up_any (h : Rep R w a d room us lk up) (i : Int) :
 Calls Tryz.prog 86 #[.pointer (some ⟨a, 0, none⟩), .int .i64 i] w fun e w' => e = .returned (.tuple #[.int .i64 (if folderErr d i = 0 then up i else 0), .int .i64 (folderErr d i)]) ∧ w = w' := by
 have hf := folder_any h i
 by_cases he : folderErr d i = 0
 ·have hi := (folderErr_zero he).1
  have hu := (h.node i hi).up
  rw [he] at hf ⊢
  rw [if_pos rfl]
  have hp : ptrIf R 0 i = .pointer (some ⟨R.g i, 0, none⟩) := rfl
  rw [hp] at hf
  go_enter Tryz.func86, Tryz.ntmps86
  go_wp2_with (go_at_call 88; refine hf.mono ?_; rintro e w1 ⟨rfl, rfl⟩)
  go_ret2
  exact ⟨rfl, rfl⟩
 ·rw [if_neg he]
  have hp : ptrIf R (folderErr d i) i = .pointer none := if_neg he
  rw [hp] at hf
  generalize folderErr d i = er at hf he
  go_enter Tryz.func86, Tryz.ntmps86
  go_wp2_with (go_at_call 88; refine hf.mono ?_; rintro e w1 ⟨rfl, rfl⟩)
  go_ret2
  exact ⟨rfl, rfl⟩
end
set_option maxRecDepth 100000
set_option maxHeartbeats 1000000
section
variable {R : RD} {w : World} {a : Nat} {d : Nds} {room us : Int} {lk up : Int -> Int}
def takeU (room us n : Int) : Int := if n <= room - us then us + n else us
theorem keeps_to (w wr : World) (k : Keeps NoB w wr) (p : Addr) (u : Value) : Keeps (fun x => x = p.block) w (wr.setCell p u) := Keeps.setCell (F := fun x => x = p.block) (p := p) k.of_none (Or.inl rfl) u
theorem take_any (h : Rep R w a d room us lk up) (n : Int) (h0 : 0 <= us) (h1 : us <= room) (h2 : room <= 9223372036854775807) (h3 : -4611686018427387904 <= n) (h4 : n <= 4611686018427387904) :
 Calls Tryz.prog 55 #[.pointer (some ⟨a, 0, none⟩), .int .i64 n] w fun e w' => e = .returned (.bool (decide (n <= room - us))) ∧ Rep R w' a d room (takeU room us n) lk up ∧ Keeps (fun x => x = a) w w' := by
 have hu := h.used
 have hr := h.room
 have hf := h.fz 2
 have H := Lib.hid h
 have e1 : IntKind.i64.wrap (room - us) = room - us := by rw [IntKind.wrap_i64]; omega
 by_cases c : n <= room - us
 ·have e2 : IntKind.i64.wrap (us + n) = us + n := by rw [IntKind.wrap_i64]; omega
  have hd : decide (n <= room - us) = true := decide_eq_true c
  have ht : takeU room us n = us + n := if_pos c
  rw [hd, ht]
  have hlt : ¬ (room - us < n) := by omega
  clear h hd ht c
  go_enter Tryz.func55, Tryz.ntmps55
  go_wp2_with (go_quiet (fail))
  all_goals
   go_ret
   refine ⟨rfl, ?_, ?_⟩
   ·exact (H.out.keepN ((Keeps.refl _ _).drewN _)).setUsed _
   ·exact keeps_to w _ ((Keeps.refl _ _).drewN _) ⟨a, 2, none⟩ _
 ·have hd : decide (n <= room - us) = false := decide_eq_false c
  have ht : takeU room us n = us := if_neg c
  rw [hd, ht]
  have hlt : room - us < n := by omega
  clear h hd ht c
  go_enter Tryz.func55, Tryz.ntmps55
  go_wp2_with (go_quiet (fail))
  all_goals
   go_ret
   exact ⟨rfl, H.out.keepN ((Keeps.refl _ _).drewN _), ((Keeps.refl _ _).drewN _)⟩
theorem hold_any (h : Rep R w a d room us lk up) (i : Int) (hb : (nd d i).holds <= 4611686018427387904) (hb0 : 0 <= (nd d i).holds) :
 Calls Tryz.prog 53 #[.pointer (some ⟨a, 0, none⟩), .int .i64 i] w fun e w' => e = .returned (.int .i64 (if has d i then 0 else 12)) ∧
  Rep R w' a (if has d i then upd d i ((nd d i).setHolds ((nd d i).holds + 1)) else d) room us lk up ∧ Keeps R.F w w' := by
 have hl := h.l
 have hlook := h.look i
 unfold nodeV at hlook
 by_cases hi : has d i
 ·rw [if_pos hi] at hlook
  rw [if_pos hi, if_pos hi]
  have hn := h.node i hi
  have hk := hn.holds
  have hf := hn.fz 3
  have e1 : IntKind.i64.wrap ((nd d i).holds + 1) = (nd d i).holds + 1 := by rw [IntKind.wrap_i64]; omega
  have hR := Lib.hid (h.setHolds hi ((nd d i).holds + 1))
  have hF := Lib.hid (h.fN hi)
  generalize (nd d i).holds = x at hk e1 hR
  clear h hn
  go_enter Tryz.func53, Tryz.ntmps53
  go_wp2
  go_ret
  exact ⟨rfl, hR.out, (Keeps.refl _ _).setCell (.inl hF.out) _⟩
 ·rw [if_neg hi] at hlook
  rw [if_neg hi, if_neg hi]
  have H := Lib.hid h
  go_enter Tryz.func53, Tryz.ntmps53
  go_wp2
  go_ret
  exact ⟨rfl, H.out, Keeps.refl _ _⟩
def chmodErr (d : Nds) (i m : Int) : Int := if (nd d i).kind = 0 then 12 else if okMode m then 0 else 10
theorem chmod_any (h : Rep R w a d room us lk up) (i m : Int) :
 Calls Tryz.prog 27 #[.pointer (some ⟨a, 0, none⟩), .int .i64 i, .int .i64 m] w fun e w' => e = .returned (.int .i64 (chmodErr d i m)) ∧
  Rep R w' a (if chmodErr d i m = 0 then upd d i ((nd d i).setMode m) else d) room us lk up ∧ Keeps R.F w w' := by
 have hl := h.l
 have hlook := h.look i
 unfold nodeV at hlook
 unfold chmodErr
 by_cases hi : has d i
 ·rw [if_pos hi] at hlook
  have hi0 : ¬ (nd d i).kind = 0 := hi
  rw [if_neg hi0]
  have hn := h.node i hi
  have hk := hn.mode
  have hf := hn.fz 1
  have hR := Lib.hid (h.setMode hi m)
  have hF := Lib.hid (h.fN hi)
  have H := Lib.hid h
  cases hm : okMode m with
  | true =>
    rw [if_pos rfl, if_pos rfl]
    have hr := right_any m w
    rw [hm] at hr
    clear h hn
    go_enter Tryz.func27, Tryz.ntmps27
    go_wp2_with (go_at_call 57; refine hr.mono ?_; rintro e w1 ⟨rfl, rfl⟩)
    go_ret
    exact ⟨rfl, hR.out, (Keeps.refl _ _).setCell (.inl hF.out) _⟩
  | false =>
    rw [if_neg (by decide), if_neg (by decide)]
    have hr := right_any m w
    rw [hm] at hr
    clear h hn
    go_enter Tryz.func27, Tryz.ntmps27
    go_wp2_with (go_at_call 57; refine hr.mono ?_; rintro e w1 ⟨rfl, rfl⟩)
    go_ret
    exact ⟨rfl, H.out, Keeps.refl _ _⟩
 ·rw [if_neg hi] at hlook
  rw [if_pos (not_has hi), if_neg (by decide)]
  have H := Lib.hid h
  go_enter Tryz.func27, Tryz.ntmps27
  go_wp2
  go_ret
  exact ⟨rfl, H.out, Keeps.refl _ _⟩
end
set_option maxRecDepth 100000
set_option maxHeartbeats 1000000
theorem less_of_free (n : Nat) (hf : FreeOk n) : LessOk n := by
 intro R w a d room lk up pend i hn h hp hng
 have hi := h.pres i hp
 have hl := h.rep.l
 have hlook := h.rep.look i
 unfold nodeV at hlook
 rw [if_pos hi] at hlook
 have hnode := h.rep.node i hi
 have hk := hnode.links
 have hf2 := hnode.fz 2
 have hf6 := hnode.fz 6
 have hc6 := hnode.up
 have hc := h.cnt i hi
 have hb := h.lkb i hi
 have H := Lib.hid h
 have hF := h.rep.fN hi
 by_cases hz : lk i - 1 = 0
 ·have hL : lk i = 1 := by omega
  have hR2 := (h.rep.setLinks hi 0).setUp hi 0
  rw [show setAt lk i 0 = setAt lk i (lk i - 1) by rw [hz]] at hR2
  have hC := H.out.dec hp hR2 (by rw [if_pos hz])
  have hk2 : Keeps R.F w ((w.setCell ⟨R.g i, 2, none⟩ (.int .i64 0)).setCell ⟨R.g i, 6, none⟩ (.int .i64 0)) := (((Keeps.refl R.F w).setCell (p := ⟨R.g i, 2, none⟩) (.inl hF) _).setCell (p := ⟨R.g i, 6, none⟩) (.inl hF) _)
  have hfree := hf R _ a d room _ _ _ i hn hC hi (fun j hj => PG.of_dec hng hj)
  have HC := Lib.hid hC
  have HF := Lib.hid hfree
  have HK := Lib.hid hk2
  rw [hL] at hk
  clear hC hfree hk2 hR2 h hnode hn hng hf hc hb hp hz hL
  go_enter Tryz.func93, Tryz.ntmps93
  go_wp2_with (go_at_call 56; refine HF.out.mono ?_; rintro e w1 ⟨rfl, R', d', lk', up', h1, h2, h3, h4⟩)
  go_end0
  exact ⟨rfl, R', d', lk', up', h1, h2, h3, (Turn.of HK.out).trans h4⟩
 ·have hR2 := h.rep.setLinks hi (lk i - 1)
  have hC := H.out.dec hp hR2 (by rw [if_neg hz])
  have hk2 : Keeps R.F w (w.setCell ⟨R.g i, 2, none⟩ (.int .i64 (lk i - 1))) := ((Keeps.refl R.F w).setCell (p := ⟨R.g i, 2, none⟩) (.inl hF) _)
  have hfree := hf R _ a d room _ _ _ i hn hC hi (fun j hj => PG.of_dec hng hj)
  have e1 : IntKind.i64.wrap (lk i - 1) = lk i - 1 := by rw [IntKind.wrap_i64]; omega
  have HC := Lib.hid hC
  have HF := Lib.hid hfree
  have HK := Lib.hid hk2
  clear hC hfree hk2 hR2 h hnode hn hng hf hc hb hp
  go_enter Tryz.func93, Tryz.ntmps93
  go_wp2_with (go_at_call 56; refine HF.out.mono ?_; rintro e w1 ⟨rfl, R', d', lk', up', h1, h2, h3, h4⟩)
  go_end0
  exact ⟨rfl, R', d', lk', up', h1, h2, h3, (Turn.of HK.out).trans h4⟩
end Go.Proofs.YtimidmogcbapnaaGreatDoor
