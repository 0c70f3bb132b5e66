/-
  Move of a disk at rest: the pure part.
-/
import Derived.Test.YtbcejodnjeklpaaDiskQ2
namespace Go.Proofs.Ytbcejodnjeklpaa
open Go.RowKit

/-- What the directory that is moved to comes to hold. -/
def movedAt (d : Nds) (t : Int) (other : ByteArray) (k : Int) : List Ent := if entHas (nd d t).ents other then entSet (nd d t).ents other k else entPut (nd d t).ents other k
def moveMid (d : Nds) (t : Int) (other : ByteArray) (k : Int) : Nds := setE d t (movedAt d t other k)
def moveTo (d : Nds) (f : Int) (name : ByteArray) (t : Int) (other : ByteArray) (k : Int) : Nds := dropTo (moveMid d t other k) f name
/-- Whose place is taken: named once less. -/
def movePend (d : Nds) (t : Int) (other : ByteArray) : Int → Nat := match entGet (nd d t).ents other with | some old => onePend old | none => zp

structure MoveOk (d : Nds) (f : Int) (name : ByteArray) (t : Int) (other : ByteArray) (k : Int) : Prop where
  inv : DInv d
  f2 : (nd d f).kind = 2
  t2 : (nd d t).kind = 2
  get : entGet (nd d f).ents name = some k
  ne : ¬ (f = t ∧ name = other)
  put : entHas (nd d t).ents other = false → putErr (nd d t).ents other = 0
  top : (nd d k).kind = 2 → ¬ Above d k t

section
variable {d : Nds} {f t k : Int} {name other : ByteArray} (M : MoveOk d f name t other k)
include M

theorem MoveOk.hf : has d f := setE_pos M.inv M.f2
theorem MoveOk.ht : has d t := setE_pos M.inv M.t2
theorem MoveOk.hk : has d k := (M.inv.tgt f _ (entGet_mem M.get)).1
theorem MoveOk.k1 : k ≠ 1 := (M.inv.tgt f _ (entGet_mem M.get)).2
theorem MoveOk.rt : Rising (nd d t).ents := (M.inv.node t).rising
theorem MoveOk.hfm : has (moveMid d t other k) f := (has_setE M.ht _ f).2 M.hf

theorem MoveOk.okOther : okName other = true := by
  cases h : entHas (nd d t).ents other with
  | false => exact (putErr_zero.1 (M.put h)).1
  | true =>
    obtain ⟨e, he, rfl⟩ := entHas_iff.1 h
    exact (M.inv.node t).names e he

theorem MoveOk.mem_at (e : Ent) (h : e ∈ movedAt d t other k) : e ∈ (nd d t).ents ∨ e = (other, k) := by
  have _ := M.inv
  unfold movedAt at h
  split at h
  · rcases mem_entSet.1 h with h1 | h1
    · exact .inl h1.1
    · exact .inr h1.1
  · next hh =>
    exact (mem_entPut (by simpa using hh) e).1 h

theorem MoveOk.rising_at : Rising (movedAt d t other k) := by
  unfold movedAt
  split
  · exact M.rt.set _ _
  · exact M.rt.put _ _

theorem MoveOk.get_mid : entGet (nd (moveMid d t other k) f).ents name = some k := by
  unfold moveMid
  rw [ents_setE M.ht]
  split
  · next e =>
    subst e
    have hne : name ≠ other := fun h => M.ne ⟨rfl, h⟩
    unfold movedAt
    split
    · rw [entGet_set_other M.rt hne]; exact M.get
    · next hh => rw [entGet_put_other M.rt (by simpa using hh) hne]; exact M.get
  · exact M.get

theorem MoveOk.ents (j : Int) : (nd (moveTo d f name t other k) j).ents = if j = f then entDel (nd (moveMid d t other k) f).ents name else if j = t then movedAt d t other k else (nd d j).ents := by
  unfold moveTo dropTo
  rw [ents_setE M.hfm]
  split
  · rfl
  · unfold moveMid; rw [ents_setE M.ht]

theorem MoveOk.rising_mid (j : Int) : Rising (nd (moveMid d t other k) j).ents := by
  unfold moveMid
  rw [ents_setE M.ht]
  split
  · exact M.rising_at
  · exact (M.inv.node j).rising

theorem MoveOk.mem (j : Int) (e : Ent) (h : e ∈ (nd (moveTo d f name t other k) j).ents) : (e ∈ (nd d j).ents ∧ (j = f → e.1 ≠ name)) ∨ (j = t ∧ e = (other, k)) := by
  rw [M.ents] at h
  have hmid : ∀ x ∈ (nd (moveMid d t other k) j).ents, x ∈ (nd d j).ents ∨ (j = t ∧ x = (other, k)) := fun x hx => by
    unfold moveMid at hx
    rw [ents_setE M.ht] at hx
    split at hx
    · next e => subst e; exact (M.mem_at x hx).imp id (fun h => ⟨rfl, h⟩)
    · exact .inl hx
  split at h
  · next e => subst e
              obtain ⟨h1, h2⟩ := mem_entDel.1 h
              exact (hmid e h1).imp (fun h => ⟨h, fun _ => h2⟩) id
  · next e1 =>
    split at h
    · next e => subst e; exact (M.mem_at e h).imp (fun h => ⟨h, fun h => absurd h e1⟩) (fun h => ⟨rfl, h⟩)
    · exact .inl ⟨h, fun h => absurd h e1⟩

theorem MoveOk.kind (j : Int) : (nd (moveTo d f name t other k) j).kind = (nd d j).kind := by
  unfold moveTo dropTo
  rw [kind_setE M.hfm]
  exact kind_setE M.ht _ j
theorem MoveOk.holds (j : Int) : (nd (moveTo d f name t other k) j).holds = (nd d j).holds := by
  unfold moveTo dropTo
  rw [holds_setE M.hfm]
  exact holds_setE M.ht _ j
theorem MoveOk.has (j : Int) : Go.Proofs.Ytbcejodnjeklpaa.has (moveTo d f name t other k) j ↔ Go.Proofs.Ytbcejodnjeklpaa.has d j := by
  unfold Go.Proofs.Ytbcejodnjeklpaa.has
  rw [M.kind]

theorem MoveOk.links (j : Int) : Go.Proofs.Ytbcejodnjeklpaa.links d j = Go.Proofs.Ytbcejodnjeklpaa.links (moveTo d f name t other k) j + movePend d t other j := by
  have h1 := links_setE M.ht (movedAt d t other k) j
  have h2 := links_setE M.hfm (entDel (nd (moveMid d t other k) f).ents name) j
  have h3 := nms_del (M.rising_mid f) M.get_mid j
  unfold moveTo dropTo
  have h4 : nms j (movedAt d t other k) + movePend d t other j = nms j (nd d t).ents + if k = j then 1 else 0 := by
    unfold movedAt movePend
    cases hg : entGet (nd d t).ents other with
    | none =>
      have hh : entHas (nd d t).ents other = false := by rw [← entGet_isSome, hg]; rfl
      rw [if_neg (by rw [hh]; decide), nms_put hh]
      unfold zp; rfl
    | some old =>
      rw [if_pos (entGet_has hg), ← nms_set M.rt k hg j]
      unfold onePend
      by_cases e : old = j
      · subst e; simp
      · have e2 : ¬ j = old := fun h => e h.symm
        simp [e, e2]
  have hm : Go.Proofs.Ytbcejodnjeklpaa.links (moveMid d t other k) j = Go.Proofs.Ytbcejodnjeklpaa.links (setE d t (movedAt d t other k)) j := rfl
  omega

theorem MoveOk.used : Go.Proofs.Ytbcejodnjeklpaa.used (moveTo d f name t other k) + name.size = Go.Proofs.Ytbcejodnjeklpaa.used d + (if entHas (nd d t).ents other then 0 else other.size) := by
  have h1 := used_setE M.ht (movedAt d t other k)
  have h2 := used_setE M.hfm (entDel (nd (moveMid d t other k) f).ents name)
  have h3 := entSize_del (M.rising_mid f) M.get_mid
  have h4 : entSize (movedAt d t other k) = entSize (nd d t).ents + (if entHas (nd d t).ents other then 0 else other.size) := by
    unfold movedAt
    cases hh : entHas (nd d t).ents other with
    | false => simp only [Bool.false_eq_true, if_false]; exact entSize_put hh
    | true =>
      simp only [if_true]
      rw [← entGet_isSome] at hh
      obtain ⟨old, ho⟩ := Option.isSome_iff_exists.1 hh
      rw [entSize_set M.rt k ho]; rfl
  have hm : Go.Proofs.Ytbcejodnjeklpaa.used (moveMid d t other k) = Go.Proofs.Ytbcejodnjeklpaa.used (setE d t (movedAt d t other k)) := rfl
  unfold moveTo dropTo
  omega

theorem MoveOk.mass : Go.Proofs.Ytbcejodnjeklpaa.mass (moveTo d f name t other k) ≤ Go.Proofs.Ytbcejodnjeklpaa.mass d := by
  have h1 := mass_setE M.ht (movedAt d t other k)
  have h2 := mass_setE M.hfm (entDel (nd (moveMid d t other k) f).ents name)
  have h3 := len_del (M.rising_mid f) M.get_mid
  have h4 : (movedAt d t other k).length ≤ (nd d t).ents.length + 1 := by
    unfold movedAt
    cases hh : entHas (nd d t).ents other with
    | false => simp only [Bool.false_eq_true, if_false]; rw [len_put hh]; exact Nat.le_refl _
    | true => simp only [if_true]; rw [len_set]; omega
  have hm : Go.Proofs.Ytbcejodnjeklpaa.mass (moveMid d t other k) = Go.Proofs.Ytbcejodnjeklpaa.mass (setE d t (movedAt d t other k)) := rfl
  unfold moveTo dropTo
  omega

theorem MoveOk.par {j x : Int} (h : Par (moveTo d f name t other k) j x) : (x ≠ k ∧ Par d j x) ∨ (x = k ∧ j = t) := by
  obtain ⟨h1, e, h2, h3⟩ := h
  rw [M.kind] at h1
  rcases M.mem j e h2 with ⟨h4, h5⟩ | ⟨h4, h5⟩
  · refine .inl ⟨fun hx => ?_, h1, e, h4, h3⟩
    subst hx
    obtain ⟨e1, e2⟩ := M.inv.named_once h1 h4 h3 (entGet_mem M.get) rfl
    subst e1
    subst e2
    exact h5 rfl rfl
  · subst h5; exact .inr ⟨h3.symm, h4⟩

theorem MoveOk.after : DInv (moveTo d f name t other k) := by
  refine M.inv.turned ?_ (fun j => ?_) (fun j hj => ?_) ?_
  · unfold moveTo dropTo moveMid
    rw [length_setE, length_setE]
  · refine ⟨(nd (moveTo d f name t other k) j).ents, ?_, ?_, fun e he => ?_, fun h2 => ?_⟩
    · unfold moveTo dropTo
      rw [nd_setE M.hfm]
      split
      · next e => subst e
                  unfold moveMid
                  rw [nd_setE M.ht]
                  split
                  · next e => subst e; rfl
                  · rfl
      · unfold moveMid
        rw [nd_setE M.ht]
        split
        · next e => subst e; rfl
        · rfl
    · rw [M.ents]
      split
      · exact (M.rising_mid f).del name
      · split
        · exact M.rising_at
        · exact (M.inv.node j).rising
    · rcases M.mem j e he with ⟨h1, _⟩ | ⟨_, h1⟩
      · exact ⟨(M.inv.node j).names e h1, M.inv.tgt j e h1⟩
      · subst h1; exact ⟨M.okOther, M.hk, M.k1⟩
    · rw [M.ents]
      have h3 : j ≠ f := fun e => h2 (by subst e; exact M.f2)
      have h4 : j ≠ t := fun e => h2 (by subst e; exact M.t2)
      rw [if_neg h3, if_neg h4]
      exact (M.inv.node j).flat h2
  · have := M.links j
    have := M.inv.single j hj
    omega
  · by_cases h2 : (nd d k).kind = 2
    · exact acc_reparent (fun j x hx => M.par hx) M.inv.acyc (M.top h2)
    · refine acc_mono (fun j x hx => ?_) M.inv.acyc
      rcases M.par hx with h3 | ⟨h3, _⟩
      · exact h3.2
      · subst h3
        have := hx.1
        rw [M.kind] at this
        exact absurd this h2

theorem MoveOk.casc {R R' : RD} {w w' : World} {a : Nat} {room : Int} {lk up : Int → Int} (hC : Casc R w a d room lk up zp) (hcl : NoGarb d)
    (rep : Rep R' w' a (moveTo d f name t other k) room (Go.Proofs.Ytbcejodnjeklpaa.used (moveTo d f name t other k)) lk (if (nd d k).kind = 2 then setAt up k t else up)) :
    Casc R' w' a (moveTo d f name t other k) room lk (if (nd d k).kind = 2 then setAt up k t else up) (movePend d t other) ∧ ∀ j, ¬ PG (moveTo d f name t other k) (movePend d t other) j := by
  have hl := M.links
  have hm := M.mass
  have hpend : ∀ j, 0 < movePend d t other j → Go.Proofs.Ytbcejodnjeklpaa.has d j := fun j hj => by
    unfold movePend at hj
    cases ho : entGet (nd d t).ents other with
    | none => rw [ho] at hj; simp only at hj; unfold zp at hj; omega
    | some old =>
      rw [ho] at hj
      simp only at hj
      unfold onePend at hj
      split at hj
      · next e => subst e; exact (M.inv.tgt t _ (entGet_mem ho)).1
      · omega
  refine ⟨⟨rep, M.after, fun j hj => ?_, fun j hj => (M.has j).2 (hpend j hj), fun j hj => ?_, ?_, fun j hj => hC.lkb j ((M.has j).1 hj)⟩, fun j hj => ?_⟩
  · have h1 := hC.cnt j ((M.has j).1 hj)
    have h2 := hl j
    unfold zp at h1
    omega
  · have hj' := (M.has j).1 hj
    obtain ⟨u1, u2, u3⟩ := hC.upok j hj'
    by_cases e : j = k
    · subst e
      refine ⟨fun x hx => ?_, fun e1 => absurd e1 M.k1, fun e0 => ?_⟩
      · have hk2 := hx.1
        rw [M.kind] at hk2
        rw [if_pos hk2, setAt_same]
        rcases M.par hx with ⟨h1, _⟩ | ⟨_, h2⟩
        · exact absurd rfl h1
        · exact h2.symm
      · have h1 := hC.cnt j hj'
        have h2 : 0 < Go.Proofs.Ytbcejodnjeklpaa.links d j := by
          have := (cnt_pos (i := j)).2 ⟨f, (name, j), entGet_mem M.get, rfl⟩
          unfold Go.Proofs.Ytbcejodnjeklpaa.links
          omega
        omega
    · have : (if (nd d k).kind = 2 then setAt up k t else up) j = up j := by
        split
        · exact setAt_other e
        · rfl
      rw [this]
      refine ⟨fun x hx => ?_, u2, u3⟩
      rcases M.par hx with ⟨_, h1⟩ | ⟨h1, _⟩
      · exact u1 x h1
      · exact absurd h1 e
  · have := hC.small
    unfold smallD at *
    omega
  · obtain ⟨g1, g2, g3, g4⟩ := hj
    rw [M.holds] at g4
    have := hl j
    exact hcl j ⟨(M.has j).1 g1, by omega, g4⟩

end

end Go.Proofs.Ytbcejodnjeklpaa
