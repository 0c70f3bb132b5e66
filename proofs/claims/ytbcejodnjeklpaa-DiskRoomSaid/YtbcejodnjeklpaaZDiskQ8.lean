/-
  When all entries have gone and nothing is held: the pure part of DiskRoom.
-/
import Derived.Test.YtbcejodnjeklpaaA23

set_option linter.unusedSimpArgs false
set_option linter.unusedVariables false

namespace Go.Proofs.Ytbcejodnjeklpaa
open Go.RowKit

theorem upd_out {d : Nds} {i : Int} (h : ¬ (0 ≤ i ∧ i.toNat < d.length)) (n : Nd) : upd d i n = d := by
  unfold upd
  split
  · next h0 => exact List.set_eq_of_length_le (by omega)
  · rfl

theorem holds_setE_any (d : Nds) (i : Int) (l : List Ent) (j : Int) : (nd (setE d i l) j).holds = (nd d j).holds := by
  unfold setE
  by_cases h : 0 ≤ i ∧ i.toNat < d.length
  · rw [nd_upd h.1 h.2]
    split
    · next e => subst e; rfl
    · rfl
  · rw [upd_out h]

def NN (d : Nds) : Prop := ∀ j, 0 ≤ (nd d j).holds
theorem DInv.nn {d : Nds} (h : DInv d) : NN d := fun j => (h.node j).holds

theorem Kills.nn {d d' : Nds} (k : Kills d d') (h : NN d) : NN d' := by
  induction k with
  | refl => exact h
  | step i hi _ ih =>
    refine ih fun j => ?_
    rw [nd_kill hi.1]
    split
    · decide
    · exact h j

theorem Kills.holds_le {d d' : Nds} (k : Kills d d') (h : NN d) (j : Int) : (nd d' j).holds ≤ (nd d j).holds := by
  induction k with
  | refl => exact Int.le_refl _
  | step i hi _ ih =>
    have hn : NN (kill _ i) := Kills.nn (Kills.one hi) h
    have h1 := ih hn
    rw [nd_kill hi.1] at h1
    split at h1
    · next e => subst e; have := h j; simp only [Nd.gone] at h1; omega
    · exact h1

theorem Kills.sub {d d' : Nds} (k : Kills d d') {j : Int} {e : Ent} (h : e ∈ (nd d' j).ents) : e ∈ (nd d j).ents := by
  induction k with
  | refl => exact h
  | step i hi _ ih =>
    have h1 := ih h
    rw [nd_kill hi.1] at h1
    split at h1
    · cases h1
    · exact h1

theorem gc_holds {d : Nds} (h : NN d) (j : Int) : (nd (gc d) j).holds ≤ (nd d j).holds := (gc_kills d).holds_le h j

theorem nn_setE {d : Nds} (h : NN d) (i : Int) (l : List Ent) : NN (setE d i l) := fun j => by rw [holds_setE_any]; exact h j

theorem upd_holds {d : Nds} (i : Int) (n : Nd) (m : Int) (hn : n.holds ≤ (nd d i).holds + m) (hm : 0 ≤ m) (j : Int) : (nd (upd d i n) j).holds ≤ (nd d j).holds + m := by
  by_cases h : 0 ≤ i ∧ i.toNat < d.length
  · rw [nd_upd h.1 h.2]
    split
    · next e => subst e; exact hn
    · omega
  · rw [upd_out h]; omega

theorem relD_holds {d : Nds} (hI : DInv d) (i : Int) : (∀ j, (nd (relD d i) j).holds ≤ (nd d j).holds) ∧ (relErr d i = 0 → (nd (relD d i) i).holds + 1 ≤ (nd d i).holds) ∧ (relErr d i ≠ 0 → has d i → (nd d i).holds = 0) := by
  have hnn : relErr d i = 0 → NN (relTo d i) ∧ (nd (relTo d i) i).holds = (nd d i).holds - 1 ∧ 1 ≤ (nd d i).holds := fun he => by
    have hi : has d i ∧ (nd d i).holds ≠ 0 := by
      unfold relErr at he
      split at he; · cases he
      split at he; · cases he
      next a b => exact ⟨a, b⟩
    have hr := has_range hi.1
    have h0 := (hI.node i).holds
    have h1 : 1 ≤ (nd d i).holds := by have := hi.2; omega
    have e1 : (nd (relTo d i) i).holds = (nd d i).holds - 1 := by unfold relTo; rw [nd_upd hr.1 hr.2, if_pos rfl]; rfl
    refine ⟨fun j => ?_, e1, h1⟩
    unfold relTo
    rw [nd_upd hr.1 hr.2]
    split
    · simp only [Nd.setHolds]; omega
    · exact (hI.node j).holds
  refine ⟨fun j => ?_, fun he => ?_, fun he hi => ?_⟩
  · unfold relD
    split
    · next he =>
      obtain ⟨h1, h2, h3⟩ := hnn he
      have h4 := gc_holds h1 j
      have h5 := upd_holds (d := d) i ((nd d i).setHolds ((nd d i).holds - 1)) 0 (by simp only [Nd.setHolds]; omega) (by decide) j
      unfold relTo at h4 ⊢
      omega
    · exact Int.le_refl _
  · obtain ⟨h1, h2, h3⟩ := hnn he
    have h4 := gc_holds h1 i
    unfold relD
    rw [if_pos he]
    omega
  · unfold relErr at he
    rw [if_neg hi] at he
    split at he
    · next h => exact h
    · exact absurd rfl he

theorem stepD_holds {d : Nds} (hI : DInv d) (room : Int) (o : Op4) (j : Int) : (nd (stepD d room o) j).holds ≤ (nd d j).holds + 1 := by
  have hj := (hI.node j).holds
  unfold stepD
  split
  · unfold makeTo
    split
    · rw [nd_append]
      split
      · show (1 : Int) ≤ _; omega
      · omega
    · omega
  split
  · unfold holdD
    split
    · exact upd_holds o.a _ 1 (by simp only [Nd.setHolds]; omega) (by decide) j
    · omega
  split
  · have := (relD_holds hI o.a).1 j
    omega
  split
  · unfold chmodD
    split
    · have := upd_holds (d := d) o.a ((nd d o.a).setMode o.b) 0 (by simp only [Nd.setMode]; omega) (by decide) j
      unfold chmodTo
      omega
    · omega
  split
  · unfold writeTo
    split
    · have := upd_holds (d := d) o.a (writeNd (nd d o.a) o.b.toNat o.s) 0 (by unfold writeNd; simp only [Nd.setData]; omega) (by decide) j
      omega
    · omega
  split
  · unfold emptyD
    split
    · have := upd_holds (d := d) o.a ((nd d o.a).setData ⟨#[]⟩) 0 (by simp only [Nd.setData]; omega) (by decide) j
      unfold emptyTo
      omega
    · omega
  split
  · unfold enterD
    split
    · unfold enterTo; rw [holds_setE_any]; omega
    · omega
  split
  · unfold leaveTo
    split
    · have h1 := gc_holds (nn_setE hI.nn o.a (entDel (nd d o.a).ents o.s)) j
      rw [holds_setE_any] at h1
      unfold dropTo
      omega
    · omega
  split
  · unfold moveD
    split
    · have h1 := gc_holds (nn_setE (nn_setE hI.nn o.b (movedAt d o.b o.t (lookOf d o.a o.s))) o.a (entDel (nd (moveMid d o.b o.t (lookOf d o.a o.s)) o.a).ents o.s)) j
      rw [holds_setE_any, holds_setE_any] at h1
      unfold moveTo dropTo
      unfold moveMid at *
      omega
    · omega
  · omega

/-- Leave takes away, and adds nothing. -/
theorem leave_sub {d : Nds} {i : Int} {nm : ByteArray} {j : Int} {e : Ent} (h : e ∈ (nd (leaveTo d i nm) j).ents) : e ∈ (nd d j).ents ∧ (leaveErr d i nm = 0 → j = i → e.1 ≠ nm) := by
  unfold leaveTo at h
  split at h
  · next he =>
    have h0 : lookErr d i nm = 0 := by
      unfold leaveErr at he
      split at he
      · next e => exact absurd he e
      · next e => exact Classical.not_not.1 e
    have hi := (folderErr_zero (lookErr_zero h0).1).1
    have h1 := (gc_kills _).sub h
    unfold dropTo at h1
    rw [ents_setE hi] at h1
    split at h1
    · next e => subst e; obtain ⟨h2, h3⟩ := mem_entDel.1 h1; exact ⟨h2, fun _ _ => h3⟩
    · next e => exact ⟨h1, fun _ h => absurd h e⟩
  · next he => exact ⟨h, fun h => absurd h he⟩

theorem leave_holds {d : Nds} (hI : DInv d) (i : Int) (nm : ByteArray) (j : Int) : (nd (leaveTo d i nm) j).holds ≤ (nd d j).holds := by
  unfold leaveTo
  split
  · have h1 := gc_holds (nn_setE hI.nn i (entDel (nd d i).ents nm)) j
    rw [holds_setE_any] at h1
    exact h1
  · exact Int.le_refl _

theorem leave_length (d : Nds) (i : Int) (nm : ByteArray) : (leaveTo d i nm).length = d.length := by
  unfold leaveTo
  split
  · rw [(gc_kills _).length]; unfold dropTo; exact length_setE _ _ _
  · rfl
theorem relD_length (d : Nds) (i : Int) : (relD d i).length = d.length := by
  unfold relD
  split
  · rw [(gc_kills _).length]; unfold relTo; exact upd_length _ _ _
  · rfl

theorem leave_done {d : Nds} (hI : DInv d) {i : Int} {e : Ent} (he : e ∈ (nd d i).ents) (ht : (nd d e.2).ents = []) : leaveErr d i e.1 = 0 := by
  have h2 : (nd d i).kind = 2 := Classical.byContradiction fun h => by rw [(hI.node i).flat h] at he; cases he
  have hf : folderErr d i = 0 := by unfold folderErr; rw [h2]; decide
  have hg : entGet (nd d i).ents e.1 = some e.2 := (entGet_iff (hI.node i).rising).2 he
  have hl : lookErr d i e.1 = 0 := by unfold lookErr; rw [if_neg (by simpa using hf), hg]; rfl
  have ho : lookOf d i e.1 = e.2 := by unfold lookOf; rw [if_neg (by simpa using hf), hg]; rfl
  unfold leaveErr
  rw [if_neg (by simpa using hl), ho, if_neg (by simpa using ht)]

/-- How many nodes have entries. -/
def cntNE (d : Nds) : Nat := (List.range d.length).countP fun (i : Nat) => decide ((nd d (i : Int)).ents ≠ [])
theorem cntNE_le (d : Nds) : cntNE d ≤ d.length := by
  unfold cntNE
  have := List.countP_le_length (p := fun (i : Nat) => decide ((nd d (i : Int)).ents ≠ [])) (l := List.range d.length)
  rw [List.length_range] at this
  exact this

/-- Nothing more, in the entries. -/
def Shr (d d' : Nds) : Prop := d'.length = d.length ∧ ∀ j e, e ∈ (nd d' j).ents → e ∈ (nd d j).ents
theorem Shr.refl (d : Nds) : Shr d d := ⟨rfl, fun _ _ h => h⟩
theorem Shr.trans {a b c : Nds} (h : Shr a b) (k : Shr b c) : Shr a c := ⟨k.1.trans h.1, fun j e he => h.2 j e (k.2 j e he)⟩
theorem Shr.leave (d : Nds) (i : Int) (nm : ByteArray) : Shr d (leaveTo d i nm) := ⟨leave_length d i nm, fun _ _ h => (leave_sub h).1⟩
theorem Shr.nil {d d' : Nds} (h : Shr d d') {j : Int} (hj : (nd d j).ents = []) : (nd d' j).ents = [] :=
  List.eq_nil_iff_forall_not_mem.2 fun e he => by have := h.2 j e he; rw [hj] at this; cases this
theorem Shr.cnt_le {d d' : Nds} (h : Shr d d') : cntNE d' ≤ cntNE d := by
  unfold cntNE
  rw [h.1]
  refine List.countP_mono_left fun i _ hi => ?_
  simp only [ne_eq, decide_eq_true_eq] at hi ⊢
  exact fun h2 => hi (h.nil h2)
theorem Shr.cnt_lt {d d' : Nds} (h : Shr d d') {D : Nat} (hD : D < d.length) (h1 : (nd d (D : Int)).ents ≠ []) (h2 : (nd d' (D : Int)).ents = []) : cntNE d' < cntNE d := by
  unfold cntNE
  rw [h.1]
  refine countP_lt (fun i _ hi => ?_) ⟨D, List.mem_range.2 hD, by simpa using h1, by simpa using h2⟩
  simp only [ne_eq, decide_eq_true_eq] at hi ⊢
  exact fun h3 => hi (h.nil h3)

/-- A directory all of whose entries can go. -/
def Bot (d : Nds) (D : Nat) : Prop := D < d.length ∧ (nd d (D : Int)).ents ≠ [] ∧ ∀ e ∈ (nd d (D : Int)).ents, (nd d e.2).ents = []

theorem bot_of {d : Nds} (hI : DInv d) (n : Nat) : ∀ D : Nat, D < d.length → (nd d (D : Int)).ents ≠ [] → d.length - ancs d (D : Int) ≤ n → ∃ D', Bot d D' := by
  induction n with
  | zero =>
    intro D hD hne hn
    by_cases hb : ∀ e ∈ (nd d (D : Int)).ents, (nd d e.2).ents = []
    · exact ⟨D, hD, hne, hb⟩
    · simp only [Classical.not_forall] at hb
      obtain ⟨e, he, hc⟩ := hb
      have hk : (nd d e.2).kind = 2 := Classical.byContradiction fun h => hc ((hI.node e.2).flat h)
      have hp : Par d (D : Int) e.2 := ⟨hk, e, he, rfl⟩
      have := ancs_lt hI hp
      have := ancs_le d e.2
      omega
  | succ n ih =>
    intro D hD hne hn
    by_cases hb : ∀ e ∈ (nd d (D : Int)).ents, (nd d e.2).ents = []
    · exact ⟨D, hD, hne, hb⟩
    · simp only [Classical.not_forall] at hb
      obtain ⟨e, he, hc⟩ := hb
      have hk : (nd d e.2).kind = 2 := Classical.byContradiction fun h => hc ((hI.node e.2).flat h)
      have hp : Par d (D : Int) e.2 := ⟨hk, e, he, rfl⟩
      have h1 := ancs_lt hI hp
      have hh : has d e.2 := by unfold has; rw [hk]; decide
      obtain ⟨K, hK, hKl⟩ := has_nat hh
      rw [hK] at hc h1
      exact ih K hKl hc (by omega)

theorem bot_any {d : Nds} (hI : DInv d) (h : 0 < cntNE d) : ∃ D, Bot d D := by
  unfold cntNE at h
  obtain ⟨i, hi, hne⟩ := List.countP_pos_iff.1 h
  exact bot_of hI _ i (List.mem_range.1 hi) (by simpa using hne) (Nat.le_refl _)

/-- What is left at the end. -/
theorem room_end {d : Nds} (hI : DInv d) (hcl : NoGarb d) (hh : ∀ j, (nd d j).holds = 0) (h0 : cntNE d = 0) : used d = 0 ∧ count d = 1 := by
  have hents : ∀ j, (nd d j).ents = [] := fun j => by
    by_cases hr : 0 ≤ j ∧ j.toNat < d.length
    · refine Classical.byContradiction fun hne => ?_
      have : 0 < cntNE d := by
        unfold cntNE
        exact List.countP_pos_iff.2 ⟨j.toNat, List.mem_range.2 hr.2, by rw [Int.toNat_of_nonneg hr.1]; simpa using hne⟩
      omega
    · rw [nd_gone hr]; rfl
  have hcnt : ∀ i, cnt d i = 0 := fun i => Nat.eq_zero_of_not_pos fun h => by
    obtain ⟨j, e, he, _⟩ := cnt_pos.1 h
    rw [hents j] at he; cases he
  have hone : ∀ i, has d i → i = 1 := fun i hi => Classical.byContradiction fun hne => hcl i ⟨hi, by unfold links; rw [if_neg hne, hcnt], hh i⟩
  have hmem : ∀ n ∈ d, ∃ j : Int, n = nd d j := fun n hn => by
    obtain ⟨j, hj⟩ := List.mem_iff_getElem?.1 hn
    exact ⟨j, (nd_nat hj).symm⟩
  have h1 : has d 1 := by unfold has; rw [hI.root]; decide
  refine ⟨sumBy_zero.2 fun n hn => ?_, ?_⟩
  · obtain ⟨j, rfl⟩ := hmem n hn
    unfold room1
    rw [hents j]
    by_cases hj : has d j
    · have := hone j hj
      subst this
      rw [(hI.node 1).dirs hI.root]; rfl
    · rw [(hI.node j).gone (not_has hj)]; rfl
  · have hc := count_kill h1
    have hz : count (kill d 1) = 0 := sumBy_zero.2 fun n hn => by
      obtain ⟨j, hj⟩ := List.mem_iff_getElem?.1 hn
      have e := nd_nat hj
      rw [nd_kill h1] at e
      rw [← e]
      split
      · rfl
      · next hne =>
        unfold here1
        rw [if_pos]
        exact not_has (fun hh => hne (hone _ hh))
    omega

end Go.Proofs.Ytbcejodnjeklpaa
