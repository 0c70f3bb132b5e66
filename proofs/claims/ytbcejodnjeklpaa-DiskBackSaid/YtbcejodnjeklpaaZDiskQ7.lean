/-
  A move, and back: the pure part.
-/
import Derived.Test.YtbcejodnjeklpaaA12

set_option linter.unusedSimpArgs false
set_option linter.unusedVariables false

namespace Go.Proofs.Ytbcejodnjeklpaa
open Go.RowKit

section
variable {d : Nds} {f t k : Int} {name other : ByteArray}

theorem MoveOk.nd (M : MoveOk d f name t other k) (j : Int) : Go.Proofs.Ytbcejodnjeklpaa.nd (moveTo d f name t other k) j = (Go.Proofs.Ytbcejodnjeklpaa.nd d j).setEnts (Go.Proofs.Ytbcejodnjeklpaa.nd (moveTo d f name t other k) j).ents := by
  have h : ∃ l, Go.Proofs.Ytbcejodnjeklpaa.nd (moveTo d f name t other k) j = (Go.Proofs.Ytbcejodnjeklpaa.nd d j).setEnts l := by
    unfold moveTo dropTo
    rw [nd_setE M.hfm]
    unfold moveMid
    split
    · next e =>
      subst e
      rw [nd_setE M.ht]
      split
      · next e => subst e; exact ⟨_, rfl⟩
      · exact ⟨_, rfl⟩
    · rw [nd_setE M.ht]
      split
      · next e => subst e; exact ⟨_, rfl⟩
      · exact ⟨(Go.Proofs.Ytbcejodnjeklpaa.nd d j).ents, rfl⟩
  obtain ⟨l, hl⟩ := h
  rw [hl]
  rfl

theorem MoveOk.mem_iff (M : MoveOk d f name t other k) (hno : entHas (Go.Proofs.Ytbcejodnjeklpaa.nd d t).ents other = false) (j : Int) (e : Ent) :
    e ∈ (Go.Proofs.Ytbcejodnjeklpaa.nd (moveTo d f name t other k) j).ents ↔ (e ∈ (Go.Proofs.Ytbcejodnjeklpaa.nd d j).ents ∧ ¬ (j = f ∧ e.1 = name)) ∨ (j = t ∧ e = (other, k)) := by
  have hat : movedAt d t other k = entPut (Go.Proofs.Ytbcejodnjeklpaa.nd d t).ents other k := by unfold movedAt; rw [hno]; simp
  have hne : (other, k).1 = name → ¬ f = t := fun h h2 => M.ne ⟨h2, h.symm⟩
  rw [M.ents]
  by_cases e1 : j = f
  · subst e1
    rw [if_pos rfl, mem_entDel]
    have hm : e ∈ (Go.Proofs.Ytbcejodnjeklpaa.nd (moveMid d t other k) j).ents ↔ e ∈ (Go.Proofs.Ytbcejodnjeklpaa.nd d j).ents ∨ (j = t ∧ e = (other, k)) := by
      unfold moveMid
      rw [ents_setE M.ht]
      by_cases e2 : j = t
      · subst e2
        rw [if_pos rfl, hat, mem_entPut hno]
        simp
      · rw [if_neg e2]
        simp [e2]
    rw [hm]
    constructor
    · rintro ⟨h1 | h1, h2⟩
      · exact .inl ⟨h1, fun h => h2 h.2⟩
      · exact .inr h1
    · rintro (⟨h1, h2⟩ | ⟨h1, h2⟩)
      · exact ⟨.inl h1, fun h => h2 ⟨rfl, h⟩⟩
      · subst h2; exact ⟨.inr ⟨h1, rfl⟩, fun h => hne h h1⟩
  · rw [if_neg e1]
    by_cases e2 : j = t
    · subst e2
      rw [if_pos rfl, hat, mem_entPut hno]
      simp [e1]
    · rw [if_neg e2]
      simp [e1, e2]

/-- After the move, the way back is open. -/
theorem MoveOk.back (M : MoveOk d f name t other k) (hno : entHas (Go.Proofs.Ytbcejodnjeklpaa.nd d t).ents other = false) :
    MoveOk (moveTo d f name t other k) t other f name k ∧ entHas (Go.Proofs.Ytbcejodnjeklpaa.nd (moveTo d f name t other k) f).ents name = false ∧ moveTo (moveTo d f name t other k) t other f name k = d := by
  have hmem := M.mem_iff hno
  have hI1 := M.after
  have hok : okName name = true := (M.inv.node f).names _ (entGet_mem M.get)
  have hno1 : entHas (Go.Proofs.Ytbcejodnjeklpaa.nd (moveTo d f name t other k) f).ents name = false := by
    cases h : entHas (Go.Proofs.Ytbcejodnjeklpaa.nd (moveTo d f name t other k) f).ents name with
    | false => rfl
    | true =>
      obtain ⟨e, he, h2⟩ := entHas_iff.1 h
      rcases (hmem f e).1 he with ⟨_, h3⟩ | ⟨h3, h4⟩
      · exact absurd ⟨rfl, h2⟩ h3
      · subst h4; exact absurd ⟨h3, h2.symm⟩ M.ne
  have hget1 : entGet (Go.Proofs.Ytbcejodnjeklpaa.nd (moveTo d f name t other k) t).ents other = some k := (entGet_iff (hI1.node t).rising).2 ((hmem t (other, k)).2 (.inr ⟨rfl, rfl⟩))
  have htop1 : (Go.Proofs.Ytbcejodnjeklpaa.nd (moveTo d f name t other k) k).kind = 2 → ¬ Above (moveTo d f name t other k) k f := fun h2 ha => by
    rw [M.kind] at h2
    have key : ∀ x, AboveR (Par (moveTo d f name t other k)) k x → AboveR (Par d) k x := fun x hx => by
      induction hx with
      | self => exact .self
      | step hp _ ih =>
        rcases M.par hp with ⟨_, h4⟩ | ⟨h4, _⟩
        · exact .step h4 ih
        · subst h4; exact .self
    exact acc_cycle (M.inv.acyc k) f ⟨h2, _, entGet_mem M.get, rfl⟩ (key f ha)
  have M1 : MoveOk (moveTo d f name t other k) t other f name k :=
    ⟨hI1, by rw [M.kind]; exact M.t2, by rw [M.kind]; exact M.f2, hget1, fun h => M.ne ⟨h.1.symm, h.2.symm⟩, fun _ => putErr_zero.2 ⟨hok, hno1⟩, htop1⟩
  refine ⟨M1, hno1, ?_⟩
  have hmem1 := M1.mem_iff hno1
  have hlen : ∀ (D : Nds) (f t k : Int) (a b : ByteArray), (moveTo D f a t b k).length = D.length := fun D f t k a b => by unfold moveTo dropTo moveMid; rw [length_setE, length_setE]
  refine Nds.ext (by rw [hlen, hlen]) fun j => ?_
  have he : (Go.Proofs.Ytbcejodnjeklpaa.nd (moveTo (moveTo d f name t other k) t other f name k) j).ents = (Go.Proofs.Ytbcejodnjeklpaa.nd d j).ents := by
    refine rising_ext (M1.after.node j).rising (M.inv.node j).rising fun e => ?_
    rw [hmem1 j e, hmem j e]
    constructor
    · rintro (⟨⟨h1, _⟩ | ⟨h1, h2⟩, h3⟩ | ⟨h1, h2⟩)
      · exact h1
      · subst h2; exact absurd ⟨h1, rfl⟩ h3
      · subst h1; subst h2; exact entGet_mem M.get
    · intro h
      by_cases h1 : j = f ∧ e.1 = name
      · obtain ⟨rfl, h2⟩ := h1
        have := rising_name (M.inv.node j).rising h (entGet_mem M.get) h2
        exact .inr ⟨rfl, this⟩
      · refine .inl ⟨.inl ⟨h, h1⟩, fun h2 => ?_⟩
        obtain ⟨rfl, h3⟩ := h2
        have : entHas (Go.Proofs.Ytbcejodnjeklpaa.nd d j).ents other = true := entHas_iff.2 ⟨e, h, h3⟩
        rw [hno] at this; cases this
  rw [M1.nd, M.nd, he]
  rfl

end

/-- Move to a name that is not there, and back. -/
theorem move_back {d : Nds} {room f t : Int} {name other : ByteArray} (hI : DInv d) (hcl : NoGarb d) (hfit : (used d : Int) ≤ room) (h : moveErr d room f name t other = 0) (hl : lookErr d t other ≠ 0) :
    moveErr (moveD d room f name t other) room t other f name = 0 ∧ moveD (moveD d room f name t other) room t other f name = d := by
  have h0 : lookErr d f name = 0 := Classical.byContradiction fun h0 => by rw [moveErr_look h0] at h; exact h0 h
  have h1 : folderErr d t = 0 := Classical.byContradiction fun h1 => by rw [moveErr_fold h0 h1] at h; exact h1 h
  have h2 : ¬ ((nd d (lookOf d f name)).kind = 2 ∧ Above d (lookOf d f name) t) := fun h2 => by rw [moveErr_busy h0 h1 h2] at h; cases h
  have hn : entGet (nd d t).ents other = none := by
    cases hx : entGet (nd d t).ents other with
    | none => rfl
    | some y => exact absurd (by unfold lookErr; rw [if_neg (by simpa using h1), hx]; rfl) hl
  have hno : entHas (nd d t).ents other = false := by rw [← entGet_isSome, hn]; rfl
  have h' := h
  rw [moveErr_two h0 h1 h2] at h
  unfold moveErr2 at h
  rw [hn] at h
  unfold movedErr at h
  rw [hno] at h
  simp only [Bool.false_eq_true, if_false] at h
  have hp : putErr (nd d t).ents other = 0 := by
    split at h
    · next e => exact absurd h e
    · next e => exact Classical.not_not.1 e
  obtain ⟨f0, hg⟩ := lookErr_zero h0
  generalize hk : lookOf d f name = k at *
  have M : MoveOk d f name t other k := MoveOk.mk' hI (folderErr_zero f0).2 (folderErr_zero h1).2 hg (by rw [hn]; simp) (fun _ => hp) (fun a b => h2 ⟨a, b⟩)
  have hD : moveD d room f name t other = moveTo d f name t other k := by
    unfold moveD
    rw [hk, if_pos ⟨h', by rw [hn]; simp⟩]
    exact (M.free hcl).2 hn
  rw [hD]
  obtain ⟨M1, hno1, heq⟩ := M.back hno
  have hn1 : entGet (nd (moveTo d f name t other k) f).ents name = none := by
    cases hx : entGet (nd (moveTo d f name t other k) f).ents name with
    | none => rfl
    | some y => rw [entGet_has hx] at hno1; cases hno1
  have g1 : folderErr (moveTo d f name t other k) t = 0 := by unfold folderErr; rw [M1.f2]; decide
  have g0 : folderErr (moveTo d f name t other k) f = 0 := by unfold folderErr; rw [M1.t2]; decide
  have l0 : lookErr (moveTo d f name t other k) t other = 0 := by unfold lookErr; rw [if_neg (by simpa using g1), M1.get]; rfl
  have lo : lookOf (moveTo d f name t other k) t other = k := by unfold lookOf; rw [if_neg (by simpa using g1), M1.get]; rfl
  have he : moveErr (moveTo d f name t other k) room t other f name = 0 := by
    rw [moveErr_two l0 g0 (by rw [lo]; exact fun h => M1.top h.1 h.2)]
    unfold moveErr2
    rw [hn1]
    unfold movedErr
    rw [hno1, if_neg (by decide), if_neg (by simpa using M1.put hno1), if_neg]
    have := M.used
    rw [hno] at this
    simp only [Bool.false_eq_true, if_false] at this
    omega
  refine ⟨he, ?_⟩
  unfold moveD
  rw [lo, if_pos ⟨he, by rw [hn1]; simp⟩, heq]
  exact gc_same hcl

end Go.Proofs.Ytbcejodnjeklpaa
