/-
  A disk at rest, and what a node's turning means to it: the pure part.
-/
import Derived.Test.YtbcejodnjeklpaaDiskF
namespace Go.Proofs.Ytbcejodnjeklpaa
open Go.RowKit

section
variable {d : Nds} {i : Int} {n : Nd}

theorem has_upd (hi : has d i) (hn : n.kind ≠ 0) (j : Int) : has (upd d i n) j ↔ has d j := by
  have hr := has_range hi
  unfold has
  rw [nd_upd hr.1 hr.2]
  split
  · next e => subst e; exact ⟨fun _ => hi, fun _ => hn⟩
  · rfl

theorem links_upd (hi : has d i) (j : Int) : links (upd d i n) j + namesOf j (nd d i) = links d j + namesOf j n := by
  have hr := has_range hi
  have := sumBy_upd (namesOf j) hr.1 hr.2 n
  unfold links cnt
  omega

theorem links_same (hi : has d i) (he : n.ents = (nd d i).ents) (j : Int) : links (upd d i n) j = links d j := by
  have := links_upd (n := n) hi j
  have : namesOf j n = namesOf j (nd d i) := by unfold namesOf; rw [he]
  omega

theorem used_upd (hi : has d i) : used (upd d i n) + room1 (nd d i) = used d + room1 n := by
  have hr := has_range hi
  exact sumBy_upd room1 hr.1 hr.2 n

theorem mass_upd (hi : has d i) : mass (upd d i n) + mass1 (nd d i) = mass d + mass1 n := by
  have hr := has_range hi
  exact sumBy_upd mass1 hr.1 hr.2 n

theorem links_le (d : Nds) (i : Int) : links d i ≤ 1 + mass d := by
  have h : cnt d i ≤ mass d := by
    induction d with
    | nil => simp [cnt, sumBy]
    | cons a d ih =>
      simp only [cnt, mass, sumBy, List.map_cons, List.sum_cons] at ih ⊢
      have : namesOf i a ≤ mass1 a := by
        unfold namesOf mass1
        have := List.countP_le_length (p := fun e : Ent => decide (e.2 = i)) (l := a.ents)
        omega
      omega
  unfold links
  split <;> omega

theorem par_same (hi : has d i) (hk : n.kind = (nd d i).kind) (he : n.ents = (nd d i).ents) (j k : Int) : Par (upd d i n) j k ↔ Par d j k := by
  have hr := has_range hi
  unfold Par
  rw [nd_upd hr.1 hr.2, nd_upd hr.1 hr.2]
  by_cases e1 : k = i <;> by_cases e2 : j = i
  · subst e1; subst e2; simp [hk, he]
  · subst e1; simp [hk, e2]
  · subst e2; simp [he, e1]
  · simp [e1, e2]

/-- A node whose kind and entries stay. -/
theorem DInv.upd (h : DInv d) (hi : has d i) (hok : NdOk n) (hk : n.kind = (nd d i).kind) (he : n.ents = (nd d i).ents) : DInv (upd d i n) := by
  have hr := has_range hi
  have hpos := h.pos hi
  have hk0 : n.kind ≠ 0 := by rw [hk]; exact hi
  have hkind : ∀ j, (nd (Go.Proofs.Ytbcejodnjeklpaa.upd d i n) j).kind = (nd d j).kind := fun j => by
    rw [nd_upd hr.1 hr.2]
    split
    · next e => subst e; exact hk
    · rfl
  have hents : ∀ j, (nd (Go.Proofs.Ytbcejodnjeklpaa.upd d i n) j).ents = (nd d j).ents := fun j => by
    rw [nd_upd hr.1 hr.2]
    split
    · next e => subst e; exact he
    · rfl
  refine ⟨by rw [upd_length]; exact h.two, ?_, ?_, fun j => ?_, fun j e hj => ?_, fun j hj => ?_, fun j => ?_⟩
  · rw [nd_upd hr.1 hr.2, if_neg (by omega)]; exact h.zero
  · rw [hkind]; exact h.root
  · rw [nd_upd hr.1 hr.2]
    split
    · exact hok
    · exact h.node j
  · rw [hents] at hj
    exact ⟨(has_upd hi hk0 _).2 (h.tgt j e hj).1, (h.tgt j e hj).2⟩
  · rw [hkind] at hj
    rw [links_same hi he]
    exact h.single j hj
  · have := h.acyc j
    induction this with
    | intro j _ ih => exact ⟨j, fun k hk' => ih k ((par_same hi hk he k j).1 hk')⟩

end

def zp : Int → Nat := fun _ => 0

theorem noPG_zp {d : Nds} : (∀ j, ¬ PG d zp j) ↔ NoGarb d :=
  ⟨fun h j hj => h j ⟨hj.1, hj.2.1, rfl, hj.2.2⟩, fun h j hj => h j hj.garb⟩

/-- A disk at rest. -/
structure IsDisk (R : RD) (w : World) (a : Nat) (d : Nds) (room : Int) : Prop where
  casc : ∃ lk up, Casc R w a d room lk up zp
  clean : NoGarb d
  fits : (used d : Int) ≤ room
  max : room ≤ 9223372036854775807

section
variable {R R' : RD} {w w' : World} {a : Nat} {d d' : Nds} {room : Int}

theorem IsDisk.inv (h : IsDisk R w a d room) : DInv d := by obtain ⟨lk, up, hc⟩ := h.casc; exact hc.inv
theorem IsDisk.small (h : IsDisk R w a d room) : smallD d := by obtain ⟨lk, up, hc⟩ := h.casc; exact hc.small

theorem IsDisk.keep {F : Nat → Prop} (h : IsDisk R w a d room) (k : Keeps F w w') (hF : ∀ x, x < w.heap.size → F x → R.tag x = .none) : IsDisk R w' a d room := by
  obtain ⟨⟨lk, up, hc⟩, h1, h2, h3⟩ := h
  exact ⟨⟨lk, up, hc.keep k hF⟩, h1, h2, h3⟩
theorem IsDisk.keepN (h : IsDisk R w a d room) (k : Keeps NoB w w') : IsDisk R w' a d room := h.keep k (fun _ _ h => h.elim)

theorem Kills.used {d d' : Nds} (k : Kills d d') : used d' ≤ used d := by
  induction k with
  | refl => exact Nat.le_refl _
  | step i hi _ ih => have := used_kill hi.1; omega

theorem Kills.smallD {d d' : Nds} (k : Kills d d') (h : smallD d) : smallD d' := by
  have := k.mass
  unfold Go.Proofs.Ytbcejodnjeklpaa.smallD at *
  omega

/-- What a call may come to: a disk at rest again. -/
def DiskTo (R : RD) (w : World) (a : Nat) (d' : Nds) (room : Int) (w' : World) : Prop := ∃ R', IsDisk R' w' a d' room ∧ Turn R w R' w'

theorem IsDisk.same (h : IsDisk R w a d room) (k : Keeps NoB w w') : DiskTo R w a d room w' := ⟨R, h.keepN k, Turn.ofN k⟩

theorem DiskTo.on (h : DiskTo R w a d room w') {w'' : World} (k : Keeps NoB w' w'') : DiskTo R w a d room w'' := by
  obtain ⟨R', h1, h2⟩ := h
  exact ⟨R', h1.keepN k, h2.trans (Turn.ofN k)⟩
theorem DiskTo.drew (h : DiskTo R w a d room w') : DiskTo R w a d room w'.drew := h.on ((Keeps.refl _ _).drew)
theorem DiskTo.after {w0 : World} (k : Keeps NoB w0 w) (h : DiskTo R w a d room w') : DiskTo R w0 a d room w' := by
  obtain ⟨R', h1, h2⟩ := h
  exact ⟨R', h1, (Turn.ofN k).trans h2⟩

/-- The end of free. -/
theorem free_end {lk' up' : Int → Int} (h : Casc R' w' a d' room lk' up' zp) (hn : ∀ j, ¬ PG d' zp j) (hk : Kills d d') (hf : (used d : Int) ≤ room) (hm : room ≤ 9223372036854775807) : IsDisk R' w' a (gc d) room := by
  have hn' := noPG_zp.1 hn
  rw [gc_eq hk hn']
  have := hk.used
  exact ⟨⟨lk', up', h⟩, hn', by omega, hm⟩

/-- A node turned that keeps its kind and entries. -/
theorem Casc.upd {lk up : Int → Int} {pend : Int → Nat} {i : Int} {n : Nd} (h : Casc R w a d room lk up pend) (hi : has d i) (hok : NdOk n) (hk : n.kind = (nd d i).kind) (he : n.ents = (nd d i).ents)
    (rep : Rep R' w' a (Go.Proofs.Ytbcejodnjeklpaa.upd d i n) room (used (Go.Proofs.Ytbcejodnjeklpaa.upd d i n)) lk up) (hs : Go.Proofs.Ytbcejodnjeklpaa.smallD (Go.Proofs.Ytbcejodnjeklpaa.upd d i n)) : Casc R' w' a (Go.Proofs.Ytbcejodnjeklpaa.upd d i n) room lk up pend := by
  have hk0 : n.kind ≠ 0 := by rw [hk]; exact hi
  refine ⟨rep, h.inv.upd hi hok hk he, fun j hj => ?_, fun j hj => (has_upd hi hk0 j).2 (h.pres j hj), fun j hj => ?_, hs, fun j hj => h.lkb j ((has_upd hi hk0 j).1 hj)⟩
  · rw [links_same hi he]; exact h.cnt j ((has_upd hi hk0 j).1 hj)
  · obtain ⟨h1, h2, h3⟩ := h.upok j ((has_upd hi hk0 j).1 hj)
    exact ⟨fun k hk' => h1 k ((par_same hi hk he k j).1 hk'), h2, h3⟩

end

end Go.Proofs.Ytbcejodnjeklpaa
