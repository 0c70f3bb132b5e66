/-
  What free and less let go of: the pure part.
-/
import Derived.Test.YtbcejodnjeklpaaDiskR2
namespace Go.Proofs.Ytbcejodnjeklpaa
open Go.RowKit

def UpOk (d : Nds) (lk up : Int → Int) : Prop := ∀ i, has d i → (∀ j, Par d j i → up i = j) ∧ (i = 1 → up i = 1) ∧ (lk i = 0 → up i = 0)

/-- Garbage, but for what is still to be taken off. -/
def PG (d : Nds) (pend : Int → Nat) (i : Int) : Prop := has d i ∧ links d i = 0 ∧ pend i = 0 ∧ (nd d i).holds = 0

def smallD (d : Nds) : Prop := mass d ≤ 2147483648

structure Casc (R : RD) (w : World) (a : Nat) (d : Nds) (room : Int) (lk up : Int → Int) (pend : Int → Nat) : Prop where
  rep : Rep R w a d room (used d) lk up
  inv : DInv d
  cnt : ∀ i, has d i → lk i = ((links d i + pend i : Nat) : Int)
  pres : ∀ i, 0 < pend i → has d i
  upok : UpOk d lk up
  small : smallD d
  lkb : ∀ i, has d i → lk i ≤ 4611686018427387904

theorem nd_ents_len {d : Nds} (h : smallD d) (i : Int) : (nd d i).ents.length < 4294967295 := by
  by_cases hh : 0 ≤ i ∧ i.toNat < d.length
  · have h1 := sumBy_ge mass1 hh.1 hh.2
    unfold smallD mass at h
    unfold mass1 at h h1
    omega
  · rw [nd_gone hh]; decide

theorem Par.links {d : Nds} {j i : Int} (h : Par d j i) : 0 < links d i := by
  obtain ⟨_, e, he, h2⟩ := h
  have := cnt_pos.2 ⟨j, e, he, h2⟩
  unfold Go.Proofs.Ytbcejodnjeklpaa.links
  omega

section
variable {R R' : RD} {w w' : World} {a : Nat} {d : Nds} {room : Int} {lk up : Int → Int} {pend : Int → Nat} {i : Int}

theorem PG.garb (h : PG d pend i) : Garb d i := ⟨h.1, h.2.1, h.2.2.2⟩

theorem Casc.keep {F : Nat → Prop} (h : Casc R w a d room lk up pend) (k : Keeps F w w') (hF : ∀ x, x < w.heap.size → F x → R.tag x = .none) : Casc R w' a d room lk up pend :=
  ⟨h.rep.keep k hF, h.inv, h.cnt, h.pres, h.upok, h.small, h.lkb⟩

/-- What the killed one names is now pending. -/
theorem Casc.kill (h : Casc R w a d room lk up pend) (hp : PG d pend i) (rep : Rep R' w' a (kill d i) room (used (kill d i)) lk up) :
    Casc R' w' a (Go.Proofs.Ytbcejodnjeklpaa.kill d i) room lk up (fun j => pend j + namesOf j (nd d i)) := by
  have hi := hp.1
  refine ⟨rep, h.inv.kill hp.garb, fun j hj => ?_, fun j hj => ?_, fun j hj => ?_, ?_, fun j hj => h.lkb j ((has_kill hi).1 hj).2⟩
  · have := h.cnt j ((has_kill hi).1 hj).2
    have := links_kill hi j
    omega
  · refine (has_kill hi).2 ?_
    by_cases h1 : 0 < pend j
    · exact ⟨fun e => by subst e; have := hp.2.2.1; omega, h.pres j h1⟩
    · obtain ⟨e, he, h2⟩ := namesOf_pos.1 (by omega : 0 < namesOf j (nd d i))
      have := (h.inv.tgt i e he).1
      rw [h2] at this
      refine ⟨fun e1 => ?_, this⟩
      subst e1
      have := cnt_pos.2 ⟨j, e, he, h2⟩
      have := hp.2.1
      unfold links at this
      omega
  · obtain ⟨h1, h2, h3⟩ := h.upok j ((has_kill hi).1 hj).2
    refine ⟨fun k hk => h1 k ?_, h2, h3⟩
    obtain ⟨hk1, e, he, hk2⟩ := hk
    rw [nd_kill hi, if_neg ((has_kill hi).1 hj).1] at hk1
    rw [nd_kill hi] at he
    split at he
    · cases he
    · exact ⟨hk1, e, he, hk2⟩
  · have := mass_kill hi
    have := h.small
    unfold smallD at *
    omega

theorem PG.of_kill (hi : has d i) {j : Int} (h : PG (kill d i) (fun j => pend j + namesOf j (nd d i)) j) : PG d pend j ∧ j ≠ i := by
  obtain ⟨h1, h2, h3, h4⟩ := h
  obtain ⟨h5, h6⟩ := (has_kill hi).1 h1
  rw [nd_kill hi, if_neg h5] at h4
  have := links_kill hi j
  refine ⟨⟨h6, ?_, ?_, h4⟩, h5⟩ <;> simp only at h3 <;> omega

def decAt (p : Int → Nat) (i : Int) : Int → Nat := fun j => if j = i then p j - 1 else p j

/-- One entry less: the counter is down by one. -/
theorem Casc.dec (h : Casc R w a d room lk up pend) (hp : 0 < pend i) {up' : Int → Int} (rep : Rep R w' a d room (used d) (setAt lk i (lk i - 1)) up') (hup : up' = if lk i - 1 = 0 then setAt up i 0 else up) :
    Casc R w' a d room (setAt lk i (lk i - 1)) up' (decAt pend i) := by
  have hi := h.pres i hp
  have hc := h.cnt i hi
  refine ⟨rep, h.inv, fun j hj => ?_, fun j hj => ?_, fun j hj => ?_, h.small, fun j hj => ?_⟩
  · have := h.cnt j hj
    unfold setAt decAt
    split
    · next e => subst e; omega
    · exact this
  · unfold decAt at hj
    split at hj
    · next e => subst e; exact hi
    · exact h.pres j hj
  · obtain ⟨h1, h2, h3⟩ := h.upok j hj
    subst hup
    by_cases e : j = i
    · subst e
      rw [setAt_same]
      split
      · next hz =>
        rw [setAt_same]
        refine ⟨fun k hk => ?_, fun e1 => ?_, fun _ => rfl⟩
        · have := hk.links; omega
        · subst e1; unfold links at hc; simp at hc; omega
      · next hz => exact ⟨h1, h2, fun h => absurd h hz⟩
    · rw [setAt_other e]
      have : (if lk i - 1 = 0 then setAt up i 0 else up) j = up j := by
        split
        · exact setAt_other e
        · rfl
      rw [this]
      exact ⟨h1, h2, h3⟩
  · have := h.lkb j hj
    unfold setAt
    split
    · next e => subst e; omega
    · exact this

theorem PG.of_dec (hn : ∀ j, ¬ PG d pend j) {j : Int} (h : PG d (decAt pend i) j) : j = i := by
  by_cases e : j = i
  · exact e
  · obtain ⟨h1, h2, h3, h4⟩ := h
    unfold decAt at h3
    rw [if_neg e] at h3
    exact absurd ⟨h1, h2, h3, h4⟩ (hn j)

end

theorem Kills.count_le {d d' : Nds} (k : Kills d d') : count d' ≤ count d := by
  induction k with
  | refl => exact Nat.le_refl _
  | step i hi _ ih =>
    have := count_kill hi.1
    omega

/-- What is still pending of a list of entries. -/
def pendL (pend : Int → Nat) (l : List Ent) : Int → Nat := fun j => pend j + l.countP fun e => decide (e.2 = j)

theorem pendL_nil (pend : Int → Nat) : pendL pend [] = pend := by funext j; simp [pendL]

theorem decAt_pendL (pend : Int → Nat) (x : Ent) (l : List Ent) : decAt (pendL pend (x :: l)) x.2 = pendL pend l := by
  funext j
  unfold decAt pendL
  rw [List.countP_cons]
  by_cases e : j = x.2
  · subst e; simp
  · rw [if_neg e]
    have : ¬ x.2 = j := fun h => e h.symm
    simp [this]

def FreePost (R : RD) (w : World) (a : Nat) (d : Nds) (room : Int) (pend : Int → Nat) : Ending → World → Prop := fun e w' =>
  e = .returned (.tuple #[]) ∧ ∃ R' d' lk' up', Casc R' w' a d' room lk' up' pend ∧ (∀ j, ¬ PG d' pend j) ∧ Kills d d' ∧ Turn R w R' w'

def FreeOk (n : Nat) : Prop := ∀ R w a d room lk up pend i, count d = n → Casc R w a d room lk up pend → has d i → (∀ j, PG d pend j → j = i) →
  Calls Try.prog 48 #[.pointer (some ⟨a, 0, none⟩), .int .i64 i] w (FreePost R w a d room pend)
def LessOk (n : Nat) : Prop := ∀ R w a d room lk up pend i, count d = n → Casc R w a d room lk up pend → 0 < pend i → (∀ j, ¬ PG d pend j) →
  Calls Try.prog 53 #[.pointer (some ⟨a, 0, none⟩), .int .i64 i] w (FreePost R w a d room (decAt pend i))

end Go.Proofs.Ytbcejodnjeklpaa
