/-
  Enter, Leave and Move of a disk at rest: the pure part.
-/
import Derived.Test.YtbcejodnjeklpaaDiskQ
namespace Go.Proofs.Ytbcejodnjeklpaa
open Go.RowKit

section
variable {d : Nds}

theorem setE_pos (h : DInv d) {i : Int} (hi : (nd d i).kind = 2) : has d i := by unfold has; rw [hi]; decide

/-- A directory is named at one place. -/
theorem DInv.named_once (h : DInv d) {i j j' : Int} {e e' : Ent} (hi : (nd d i).kind = 2) (hj : e ∈ (nd d j).ents) (he : e.2 = i) (hj' : e' ∈ (nd d j').ents) (he' : e'.2 = i) : j = j' ∧ e = e' := by
  have hc : cnt d i ≤ 1 := by
    have := h.single i hi
    unfold links at this
    omega
  have hh : has d j := by
    intro h0
    have := (h.node j).flat (by rw [h0]; decide)
    rw [this] at hj; cases hj
  have hck := cnt_kill hh i
  have hpos : 0 < namesOf i (nd d j) := namesOf_pos.2 ⟨e, hj, he⟩
  have hjj : j = j' := by
    refine Classical.byContradiction fun hne => ?_
    have : 0 < cnt (Go.Proofs.Ytbcejodnjeklpaa.kill d j) i := cnt_pos.2 ⟨j', e', by rw [nd_kill hh, if_neg (fun e => hne e.symm)]; exact hj', he'⟩
    omega
  subst hjj
  refine ⟨rfl, ?_⟩
  have hr := (h.node j).rising
  have hg : entGet (nd d j).ents e.1 = some i := (entGet_iff hr).2 (by rw [← he]; exact hj)
  have hd := nms_del hr hg i
  rw [if_pos rfl] at hd
  have hnn : namesOf i (nd d j) = nms i (nd d j).ents := rfl
  refine Classical.byContradiction fun hne => ?_
  have hm : e' ∈ entDel (nd d j).ents e.1 := mem_entDel.2 ⟨hj', fun en => hne (rising_name hr hj hj' en.symm)⟩
  have := nms_pos.2 ⟨e', hm, he'⟩
  omega

theorem DInv.par_one (h : DInv d) {i j j' : Int} (hj : Par d j i) (hj' : Par d j' i) : j = j' := by
  obtain ⟨h1, e, h2, h3⟩ := hj
  obtain ⟨_, e', h2', h3'⟩ := hj'
  exact (h.named_once h1 h2 h3 h2' h3').1

def enterTo (d : Nds) (i : Int) (name : ByteArray) (k : Int) : Nds := setE d i (entPut (nd d i).ents name k)
def dropTo (d : Nds) (i : Int) (name : ByteArray) : Nds := setE d i (entDel (nd d i).ents name)

section enter
variable {i k : Int} {name : ByteArray}

theorem enter_links (hi : has d i) (hp : putErr (nd d i).ents name = 0) (j : Int) : links (enterTo d i name k) j = links d j + if k = j then 1 else 0 := by
  have := links_setE hi (entPut (nd d i).ents name k) j
  have := nms_put (k := k) (putErr_zero.1 hp).2 j
  unfold enterTo
  omega

theorem enter_used (hi : has d i) (hp : putErr (nd d i).ents name = 0) : used (enterTo d i name k) = used d + name.size := by
  have := used_setE hi (entPut (nd d i).ents name k)
  have := entSize_put (k := k) (putErr_zero.1 hp).2
  unfold enterTo
  omega

theorem enter_mass (hi : has d i) (hp : putErr (nd d i).ents name = 0) : mass (enterTo d i name k) = mass d + 1 := by
  have := mass_setE hi (entPut (nd d i).ents name k)
  have := len_put (k := k) (putErr_zero.1 hp).2
  unfold enterTo
  omega

theorem enter_par (hi : has d i) (hp : putErr (nd d i).ents name = 0) (hkl : (nd d k).kind = 2 → links d k = 0) {j x : Int} (h : Par (enterTo d i name k) j x) : (x ≠ k ∧ Par d j x) ∨ (x = k ∧ j = i) := by
  obtain ⟨h1, e, h2, h3⟩ := h
  unfold enterTo at h1 h2
  rw [kind_setE hi] at h1
  rw [ents_setE hi] at h2
  have hold : e ∈ (nd d j).ents → (x ≠ k ∧ Par d j x) ∨ (x = k ∧ j = i) := fun he => by
    have hP : Par d j x := ⟨h1, e, he, h3⟩
    refine .inl ⟨fun hx => ?_, hP⟩
    subst hx
    have := hP.links
    have := hkl h1
    omega
  split at h2
  · next hj =>
    subst hj
    rcases (mem_entPut (putErr_zero.1 hp).2 e).1 h2 with h4 | h4
    · exact hold h4
    · subst h4; exact .inr ⟨h3.symm, rfl⟩
  · exact hold h2

theorem enter_ne (h : DInv d) (hkl : (nd d k).kind = 2 → links d k = 0) : k ≠ 1 := fun e => by
  subst e
  have := hkl h.root
  unfold links at this
  rw [if_pos rfl] at this
  omega

theorem acc_mono {P P' : Int → Int → Prop} (hP : ∀ j i, P' j i → P j i) (hacc : ∀ i, Acc P i) : ∀ i, Acc P' i := fun i => by
  have := hacc i
  induction this with
  | intro i _ ih => exact ⟨i, fun j hj => ih j (hP j i hj)⟩

theorem enter_inv (h : DInv d) (hi : (nd d i).kind = 2) (hk : has d k) (hkl : (nd d k).kind = 2 → links d k = 0) (hp : putErr (nd d i).ents name = 0) (hno : (nd d k).kind = 2 → ¬ Above d k i) : DInv (enterTo d i name k) := by
  have hh := setE_pos h hi
  obtain ⟨hok, hhas⟩ := putErr_zero.1 hp
  refine h.ents hi ((h.node i).rising.put name k) (fun e he => ?_) (fun e he => ?_) (fun j hj => ?_) ?_
  · rcases (mem_entPut hhas e).1 he with h1 | h1
    · exact (h.node i).names e h1
    · subst h1; exact hok
  · rcases (mem_entPut hhas e).1 he with h1 | h1
    · exact h.tgt i e h1
    · subst h1; exact ⟨hk, enter_ne h hkl⟩
  · have := enter_links (k := k) hh hp j
    have hs := h.single j hj
    unfold enterTo at this
    split at this
    · next e => subst e; have := hkl hj; omega
    · omega
  · by_cases h2 : (nd d k).kind = 2
    · exact acc_reparent (fun j x hx => enter_par hh hp hkl hx) h.acyc (hno h2)
    · refine acc_mono (fun j x hx => ?_) h.acyc
      have hx' := enter_par hh hp hkl hx
      rcases hx' with h3 | ⟨h3, _⟩
      · exact h3.2
      · subst h3
        have := hx.1
        rw [kind_setE hh] at this
        exact absurd this h2

theorem IsDisk.enter {R R' : RD} {w w' : World} {a : Nat} {room : Int} {lk up : Int → Int} (hC : Casc R w a d room lk up zp) (hcl : NoGarb d) (hi : (nd d i).kind = 2) (hk : has d k) (hkl : (nd d k).kind = 2 → links d k = 0)
    (hp : putErr (nd d i).ents name = 0) (hno : (nd d k).kind = 2 → ¬ Above d k i)
    (rep : Rep R' w' a (enterTo d i name k) room (used (enterTo d i name k)) (setAt lk k (lk k + 1)) (if (nd d k).kind = 2 then setAt up k i else up))
    (hs : smallD (enterTo d i name k)) (hf : (used (enterTo d i name k) : Int) ≤ room) (hm : room ≤ 9223372036854775807) : IsDisk R' w' a (enterTo d i name k) room := by
  have hh := setE_pos hC.inv hi
  have hhas : ∀ j, has (enterTo d i name k) j ↔ has d j := has_setE hh _
  have hl := fun j => enter_links (k := k) hh hp j
  have hck := hC.cnt k hk
  refine ⟨⟨_, _, rep, enter_inv hC.inv hi hk hkl hp hno, fun j hj => ?_, fun j hj => absurd hj (by unfold zp; omega), fun j hj => ?_, hs, fun j hj => ?_⟩, fun j hj => ?_, hf, hm⟩
  · have h1 := hC.cnt j ((hhas j).1 hj)
    rw [hl j]
    by_cases e : j = k
    · subst e; rw [setAt_same, if_pos rfl]; omega
    · rw [setAt_other e, if_neg (fun h => e h.symm)]; omega
  · have hj' := (hhas j).1 hj
    obtain ⟨u1, u2, u3⟩ := hC.upok j hj'
    by_cases e : j = k
    · subst e
      rw [setAt_same]
      refine ⟨fun x hx => ?_, fun e1 => absurd e1 (enter_ne hC.inv hkl), fun e0 => ?_⟩
      · have hk2 := hx.1
        unfold enterTo at hk2
        rw [kind_setE hh] at hk2
        rw [if_pos hk2, setAt_same]
        rcases enter_par hh hp hkl hx with ⟨h1, _⟩ | ⟨_, h2⟩
        · exact absurd rfl h1
        · exact h2.symm
      · omega
    · rw [setAt_other e]
      have : (if (nd d k).kind = 2 then setAt up k i else up) j = up j := by
        split
        · exact setAt_other e
        · rfl
      rw [this]
      refine ⟨fun x hx => ?_, u2, u3⟩
      rcases enter_par hh hp hkl hx with ⟨_, h1⟩ | ⟨h1, _⟩
      · exact u1 x h1
      · exact absurd h1 e
  · have h1 := hC.lkb j ((hhas j).1 hj)
    have h2 := links_le d k
    have h3 := hC.small
    unfold smallD at h3
    unfold setAt
    split
    · unfold zp at hck; omega
    · exact h1
  · obtain ⟨g1, g2, g3⟩ := hj
    rw [hl j] at g2
    rw [show (nd (enterTo d i name k) j).holds = (nd d j).holds from holds_setE hh _ j] at g3
    exact hcl j ⟨(hhas j).1 g1, by omega, g3⟩

end enter

section leave
variable {i k : Int} {name : ByteArray}

theorem drop_links (h : DInv d) (hi : has d i) (hg : entGet (nd d i).ents name = some k) (j : Int) : links d j = links (dropTo d i name) j + if k = j then 1 else 0 := by
  have := links_setE hi (entDel (nd d i).ents name) j
  have := nms_del (h.node i).rising hg j
  unfold dropTo
  omega

theorem drop_used (h : DInv d) (hi : has d i) (hg : entGet (nd d i).ents name = some k) : used d = used (dropTo d i name) + name.size := by
  have := used_setE hi (entDel (nd d i).ents name)
  have := entSize_del (h.node i).rising hg
  unfold dropTo
  omega

theorem drop_mass (h : DInv d) (hi : has d i) (hg : entGet (nd d i).ents name = some k) : mass d = mass (dropTo d i name) + 1 := by
  have := mass_setE hi (entDel (nd d i).ents name)
  have := len_del (h.node i).rising hg
  unfold dropTo
  omega

theorem drop_par (hi : has d i) {j x : Int} (h : Par (dropTo d i name) j x) : Par d j x := by
  obtain ⟨h1, e, h2, h3⟩ := h
  unfold dropTo at h1 h2
  rw [kind_setE hi] at h1
  rw [ents_setE hi] at h2
  split at h2
  · next hj => subst hj; exact ⟨h1, e, (mem_entDel.1 h2).1, h3⟩
  · exact ⟨h1, e, h2, h3⟩

theorem drop_inv (h : DInv d) (hi : (nd d i).kind = 2) (hg : entGet (nd d i).ents name = some k) : DInv (dropTo d i name) := by
  have hh := setE_pos h hi
  refine h.ents hi ((h.node i).rising.del name) (fun e he => (h.node i).names e (mem_entDel.1 he).1) (fun e he => h.tgt i e (mem_entDel.1 he).1) (fun j hj => ?_) (acc_mono (fun j x hx => drop_par hh hx) h.acyc)
  have := drop_links h hh hg j
  have := h.single j hj
  unfold dropTo at *
  omega

def onePend (k : Int) : Int → Nat := fun j => if j = k then 1 else 0
theorem onePend_pos (k : Int) : 0 < onePend k k := by unfold onePend; rw [if_pos rfl]; decide
theorem decAt_onePend (k : Int) : decAt (onePend k) k = zp := by
  funext j
  unfold decAt onePend zp
  split <;> simp_all

theorem Casc.drop {R R' : RD} {w w' : World} {a : Nat} {room : Int} {lk up : Int → Int} (hC : Casc R w a d room lk up zp) (hcl : NoGarb d) (hi : (nd d i).kind = 2) (hg : entGet (nd d i).ents name = some k)
    (rep : Rep R' w' a (dropTo d i name) room (used (dropTo d i name)) lk up) : Casc R' w' a (dropTo d i name) room lk up (onePend k) ∧ ∀ j, ¬ PG (dropTo d i name) (onePend k) j := by
  have hh := setE_pos hC.inv hi
  have hhas : ∀ j, has (dropTo d i name) j ↔ has d j := has_setE hh _
  have hl := fun j => drop_links (k := k) hC.inv hh hg j
  have hm := drop_mass hC.inv hh hg
  refine ⟨⟨rep, drop_inv hC.inv hi hg, fun j hj => ?_, fun j hj => ?_, fun j hj => ?_, ?_, fun j hj => hC.lkb j ((hhas j).1 hj)⟩, fun j hj => ?_⟩
  · have h1 := hC.cnt j ((hhas j).1 hj)
    have h2 := hl j
    unfold zp at h1
    unfold onePend
    by_cases e : k = j
    · subst e; rw [if_pos rfl] at h2 ⊢; omega
    · rw [if_neg e] at h2; rw [if_neg (fun h => e h.symm)]; omega
  · unfold onePend at hj
    split at hj
    · next e => subst e; exact (hhas j).2 (hC.inv.tgt i _ (entGet_mem hg)).1
    · omega
  · obtain ⟨u1, u2, u3⟩ := hC.upok j ((hhas j).1 hj)
    exact ⟨fun x hx => u1 x (drop_par hh hx), u2, u3⟩
  · have := hC.small
    unfold smallD at *
    omega
  · obtain ⟨g1, g2, g3, g4⟩ := hj
    have h2 := hl j
    rw [show (nd (dropTo d i name) j).holds = (nd d j).holds from holds_setE hh _ j] at g4
    unfold onePend at g3
    refine hcl j ⟨(hhas j).1 g1, ?_, g4⟩
    rw [h2, g2]
    split
    · next e => subst e; rw [if_pos rfl] at g3; cases g3
    · rfl

end leave

end

end Go.Proofs.Ytbcejodnjeklpaa
