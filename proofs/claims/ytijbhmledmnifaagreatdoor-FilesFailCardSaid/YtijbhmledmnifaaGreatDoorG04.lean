/-
  Move of a disk at rest: the pure part.
-/
import Derived.Test.YtijbhmledmnifaaGreatDoorG03
import Derived.Test.YtijbhmledmnifaaGreatDoorG02
import Derived.BigQuiet
import Derived.Deep.QuietTactic
import Derived.Deep.RegionLaw
import Derived.Handy
import Derived.Deep.RegionWith
import Derived.Deep.CutRange
import Derived.Laws.ResultCell
import Derived.Lib.SlFresh

set_option linter.unusedSimpArgs false
set_option linter.unusedVariables false

set_option maxRecDepth 100000
namespace Go.Proofs.YtijbhmledmnifaaGreatDoor
open Go.RowKit
def movedAt (d : Nds) (t : Int) (other : ByteArray) (k : Int) : List Ent := if entHas (nd d t).ents other then entSet (nd d t).ents other k else entPut (nd d t).ents other k
def moveMid (d : Nds) (t : Int) (other : ByteArray) (k : Int) : Nds := setE d t (movedAt d t other k)
def moveTo (d : Nds) (f : Int) (name : ByteArray) (t : Int) (other : ByteArray) (k : Int) : Nds := dropTo (moveMid d t other k) f name
def movePend (d : Nds) (t : Int) (other : ByteArray) : Int → Nat := match entGet (nd d t).ents other with | some old => onePend old | none => zp
structure MoveOk (d : Nds) (f : Int) (name : ByteArray) (t : Int) (other : ByteArray) (k : Int) : Prop where
  inv : DInv d
  f2 : (nd d f).kind = 2
  t2 : (nd d t).kind = 2
  get : entGet (nd d f).ents name = some k
  ne : ¬ (f = t ∧ name = other)
  put : entHas (nd d t).ents other = false → putErr (nd d t).ents other = 0
  top : (nd d k).kind = 2 → ¬ Above d k t
section
variable {d : Nds} {f t k : Int} {name other : ByteArray} (M : MoveOk d f name t other k)
include M
theorem MoveOk.hf : has d f := setE_pos M.inv M.f2
theorem MoveOk.ht : has d t := setE_pos M.inv M.t2
theorem MoveOk.hk : has d k := (M.inv.tgt f _ (entGet_mem M.get)).1
theorem MoveOk.k1 : k ≠ 1 := (M.inv.tgt f _ (entGet_mem M.get)).2
theorem MoveOk.rt : Rising (nd d t).ents := (M.inv.node t).rising
theorem MoveOk.hfm : has (moveMid d t other k) f := (has_setE M.ht _ f).2 M.hf
theorem MoveOk.okOther : okName other = true := by
  cases h : entHas (nd d t).ents other with
  | false => exact (putErr_zero.1 (M.put h)).1
  | true =>
    obtain ⟨e, he, rfl⟩ := entHas_iff.1 h
    exact (M.inv.node t).names e he
theorem MoveOk.mem_at (e : Ent) (h : e ∈ movedAt d t other k) : e ∈ (nd d t).ents ∨ e = (other, k) := by
  have _ := M.inv
  unfold movedAt at h
  split at h
  · rcases mem_entSet.1 h with h1 | h1
    · exact .inl h1.1
    · exact .inr h1.1
  · next hh =>
    exact (mem_entPut (by simpa using hh) e).1 h
theorem MoveOk.rising_at : Rising (movedAt d t other k) := by
  unfold movedAt
  split
  · exact M.rt.set _ _
  · exact M.rt.put _ _
theorem MoveOk.get_mid : entGet (nd (moveMid d t other k) f).ents name = some k := by
  unfold moveMid
  rw [ents_setE M.ht]
  split
  · next e =>
    subst e
    have hne : name ≠ other := fun h => M.ne ⟨rfl, h⟩
    unfold movedAt
    split
    · rw [entGet_set_other M.rt hne]; exact M.get
    · next hh => rw [entGet_put_other M.rt (by simpa using hh) hne]; exact M.get
  · exact M.get
theorem MoveOk.ents (j : Int) : (nd (moveTo d f name t other k) j).ents = if j = f then entDel (nd (moveMid d t other k) f).ents name else if j = t then movedAt d t other k else (nd d j).ents := by
  unfold moveTo dropTo
  rw [ents_setE M.hfm]
  split
  · rfl
  · unfold moveMid; rw [ents_setE M.ht]
theorem MoveOk.rising_mid (j : Int) : Rising (nd (moveMid d t other k) j).ents := by
  unfold moveMid
  rw [ents_setE M.ht]
  split
  · exact M.rising_at
  · exact (M.inv.node j).rising
theorem MoveOk.mem (j : Int) (e : Ent) (h : e ∈ (nd (moveTo d f name t other k) j).ents) : (e ∈ (nd d j).ents ∧ (j = f → e.1 ≠ name)) ∨ (j = t ∧ e = (other, k)) := by
  rw [M.ents] at h
  have hmid : ∀ x ∈ (nd (moveMid d t other k) j).ents, x ∈ (nd d j).ents ∨ (j = t ∧ x = (other, k)) := fun x hx => by
    unfold moveMid at hx
    rw [ents_setE M.ht] at hx
    split at hx
    · next e => subst e; exact (M.mem_at x hx).imp id (fun h => ⟨rfl, h⟩)
    · exact .inl hx
  split at h
  · next e => subst e
              obtain ⟨h1, h2⟩ := mem_entDel.1 h
              exact (hmid e h1).imp (fun h => ⟨h, fun _ => h2⟩) id
  · next e1 =>
    split at h
    · next e => subst e; exact (M.mem_at e h).imp (fun h => ⟨h, fun h => absurd h e1⟩) (fun h => ⟨rfl, h⟩)
    · exact .inl ⟨h, fun h => absurd h e1⟩
theorem MoveOk.kind (j : Int) : (nd (moveTo d f name t other k) j).kind = (nd d j).kind := by
  unfold moveTo dropTo
  rw [kind_setE M.hfm]
  exact kind_setE M.ht _ j
theorem MoveOk.holds (j : Int) : (nd (moveTo d f name t other k) j).holds = (nd d j).holds := by
  unfold moveTo dropTo
  rw [holds_setE M.hfm]
  exact holds_setE M.ht _ j
theorem MoveOk.has (j : Int) : Go.Proofs.YtijbhmledmnifaaGreatDoor.has (moveTo d f name t other k) j ↔ Go.Proofs.YtijbhmledmnifaaGreatDoor.has d j := by
  unfold Go.Proofs.YtijbhmledmnifaaGreatDoor.has
  rw [M.kind]
theorem MoveOk.links (j : Int) : Go.Proofs.YtijbhmledmnifaaGreatDoor.links d j = Go.Proofs.YtijbhmledmnifaaGreatDoor.links (moveTo d f name t other k) j + movePend d t other j := by
  have h1 := links_setE M.ht (movedAt d t other k) j
  have h2 := links_setE M.hfm (entDel (nd (moveMid d t other k) f).ents name) j
  have h3 := nms_del (M.rising_mid f) M.get_mid j
  unfold moveTo dropTo
  have h4 : nms j (movedAt d t other k) + movePend d t other j = nms j (nd d t).ents + if k = j then 1 else 0 := by
    unfold movedAt movePend
    cases hg : entGet (nd d t).ents other with
    | none =>
      have hh : entHas (nd d t).ents other = false := by rw [← entGet_isSome, hg]; rfl
      rw [if_neg (by rw [hh]; decide), nms_put hh]
      unfold zp; rfl
    | some old =>
      rw [if_pos (entGet_has hg), ← nms_set M.rt k hg j]
      unfold onePend
      by_cases e : old = j
      · subst e; simp
      · have e2 : ¬ j = old := fun h => e h.symm
        simp [e, e2]
  have hm : Go.Proofs.YtijbhmledmnifaaGreatDoor.links (moveMid d t other k) j = Go.Proofs.YtijbhmledmnifaaGreatDoor.links (setE d t (movedAt d t other k)) j := rfl
  omega
theorem MoveOk.used : Go.Proofs.YtijbhmledmnifaaGreatDoor.used (moveTo d f name t other k) + name.size = Go.Proofs.YtijbhmledmnifaaGreatDoor.used d + (if entHas (nd d t).ents other then 0 else other.size) := by
  have h1 := used_setE M.ht (movedAt d t other k)
  have h2 := used_setE M.hfm (entDel (nd (moveMid d t other k) f).ents name)
  have h3 := entSize_del (M.rising_mid f) M.get_mid
  have h4 : entSize (movedAt d t other k) = entSize (nd d t).ents + (if entHas (nd d t).ents other then 0 else other.size) := by
    unfold movedAt
    cases hh : entHas (nd d t).ents other with
    | false => simp only [Bool.false_eq_true, if_false]; exact entSize_put hh
    | true =>
      simp only [if_true]
      rw [← entGet_isSome] at hh
      obtain ⟨old, ho⟩ := Option.isSome_iff_exists.1 hh
      rw [entSize_set M.rt k ho]; rfl
  have hm : Go.Proofs.YtijbhmledmnifaaGreatDoor.used (moveMid d t other k) = Go.Proofs.YtijbhmledmnifaaGreatDoor.used (setE d t (movedAt d t other k)) := rfl
  unfold moveTo dropTo
  omega
theorem MoveOk.mass : Go.Proofs.YtijbhmledmnifaaGreatDoor.mass (moveTo d f name t other k) ≤ Go.Proofs.YtijbhmledmnifaaGreatDoor.mass d := by
  have h1 := mass_setE M.ht (movedAt d t other k)
  have h2 := mass_setE M.hfm (entDel (nd (moveMid d t other k) f).ents name)
  have h3 := len_del (M.rising_mid f) M.get_mid
  have h4 : (movedAt d t other k).length ≤ (nd d t).ents.length + 1 := by
    unfold movedAt
    cases hh : entHas (nd d t).ents other with
    | false => simp only [Bool.false_eq_true, if_false]; rw [len_put hh]; exact Nat.le_refl _
    | true => simp only [if_true]; rw [len_set]; omega
  have hm : Go.Proofs.YtijbhmledmnifaaGreatDoor.mass (moveMid d t other k) = Go.Proofs.YtijbhmledmnifaaGreatDoor.mass (setE d t (movedAt d t other k)) := rfl
  unfold moveTo dropTo
  omega
theorem MoveOk.par {j x : Int} (h : Par (moveTo d f name t other k) j x) : (x ≠ k ∧ Par d j x) ∨ (x = k ∧ j = t) := by
  obtain ⟨h1, e, h2, h3⟩ := h
  rw [M.kind] at h1
  rcases M.mem j e h2 with ⟨h4, h5⟩ | ⟨h4, h5⟩
  · refine .inl ⟨fun hx => ?_, h1, e, h4, h3⟩
    subst hx
    obtain ⟨e1, e2⟩ := M.inv.named_once h1 h4 h3 (entGet_mem M.get) rfl
    subst e1
    subst e2
    exact h5 rfl rfl
  · subst h5; exact .inr ⟨h3.symm, h4⟩
theorem MoveOk.after : DInv (moveTo d f name t other k) := by
  refine M.inv.turned ?_ (fun j => ?_) (fun j hj => ?_) ?_
  · unfold moveTo dropTo moveMid
    rw [length_setE, length_setE]
  · refine ⟨(nd (moveTo d f name t other k) j).ents, ?_, ?_, fun e he => ?_, fun h2 => ?_⟩
    · unfold moveTo dropTo
      rw [nd_setE M.hfm]
      split
      · next e => subst e
                  unfold moveMid
                  rw [nd_setE M.ht]
                  split
                  · next e => subst e; rfl
                  · rfl
      · unfold moveMid
        rw [nd_setE M.ht]
        split
        · next e => subst e; rfl
        · rfl
    · rw [M.ents]
      split
      · exact (M.rising_mid f).del name
      · split
        · exact M.rising_at
        · exact (M.inv.node j).rising
    · rcases M.mem j e he with ⟨h1, _⟩ | ⟨_, h1⟩
      · exact ⟨(M.inv.node j).names e h1, M.inv.tgt j e h1⟩
      · subst h1; exact ⟨M.okOther, M.hk, M.k1⟩
    · rw [M.ents]
      have h3 : j ≠ f := fun e => h2 (by subst e; exact M.f2)
      have h4 : j ≠ t := fun e => h2 (by subst e; exact M.t2)
      rw [if_neg h3, if_neg h4]
      exact (M.inv.node j).flat h2
  · have := M.links j
    have := M.inv.single j hj
    omega
  · by_cases h2 : (nd d k).kind = 2
    · exact acc_reparent (fun j x hx => M.par hx) M.inv.acyc (M.top h2)
    · refine acc_mono (fun j x hx => ?_) M.inv.acyc
      rcases M.par hx with h3 | ⟨h3, _⟩
      · exact h3.2
      · subst h3
        have := hx.1
        rw [M.kind] at this
        exact absurd this h2
theorem MoveOk.casc {R R' : RD} {w w' : World} {a : Nat} {room : Int} {lk up : Int → Int} (hC : Casc R w a d room lk up zp) (hcl : NoGarb d)
    (rep : Rep R' w' a (moveTo d f name t other k) room (Go.Proofs.YtijbhmledmnifaaGreatDoor.used (moveTo d f name t other k)) lk (if (nd d k).kind = 2 then setAt up k t else up)) :
    Casc R' w' a (moveTo d f name t other k) room lk (if (nd d k).kind = 2 then setAt up k t else up) (movePend d t other) ∧ ∀ j, ¬ PG (moveTo d f name t other k) (movePend d t other) j := by
  have hl := M.links
  have hm := M.mass
  have hpend : ∀ j, 0 < movePend d t other j → Go.Proofs.YtijbhmledmnifaaGreatDoor.has d j := fun j hj => by
    unfold movePend at hj
    cases ho : entGet (nd d t).ents other with
    | none => rw [ho] at hj; simp only at hj; unfold zp at hj; omega
    | some old =>
      rw [ho] at hj
      simp only at hj
      unfold onePend at hj
      split at hj
      · next e => subst e; exact (M.inv.tgt t _ (entGet_mem ho)).1
      · omega
  refine ⟨⟨rep, M.after, fun j hj => ?_, fun j hj => (M.has j).2 (hpend j hj), fun j hj => ?_, ?_, fun j hj => hC.lkb j ((M.has j).1 hj)⟩, fun j hj => ?_⟩
  · have h1 := hC.cnt j ((M.has j).1 hj)
    have h2 := hl j
    unfold zp at h1
    omega
  · have hj' := (M.has j).1 hj
    obtain ⟨u1, u2, u3⟩ := hC.upok j hj'
    by_cases e : j = k
    · subst e
      refine ⟨fun x hx => ?_, fun e1 => absurd e1 M.k1, fun e0 => ?_⟩
      · have hk2 := hx.1
        rw [M.kind] at hk2
        rw [if_pos hk2, setAt_same]
        rcases M.par hx with ⟨h1, _⟩ | ⟨_, h2⟩
        · exact absurd rfl h1
        · exact h2.symm
      · have h1 := hC.cnt j hj'
        have h2 : 0 < Go.Proofs.YtijbhmledmnifaaGreatDoor.links d j := by
          have := (cnt_pos (i := j)).2 ⟨f, (name, j), entGet_mem M.get, rfl⟩
          unfold Go.Proofs.YtijbhmledmnifaaGreatDoor.links
          omega
        omega
    · have : (if (nd d k).kind = 2 then setAt up k t else up) j = up j := by
        split
        · exact setAt_other e
        · rfl
      rw [this]
      refine ⟨fun x hx => ?_, u2, u3⟩
      rcases M.par hx with ⟨_, h1⟩ | ⟨h1, _⟩
      · exact u1 x h1
      · exact absurd h1 e
  · have := hC.small
    unfold smallD at *
    omega
  · obtain ⟨g1, g2, g3, g4⟩ := hj
    rw [M.holds] at g4
    have := hl j
    exact hcl j ⟨(M.has j).1 g1, by omega, g4⟩
end
end Go.Proofs.YtijbhmledmnifaaGreatDoor

/-
  Contracts of package disk, the ninth part: Enter.
-/
namespace Go.Proofs.YtijbhmledmnifaaGreatDoor
open Go.RowKit
set_option maxRecDepth 100000
set_option maxHeartbeats 1000000
def enterErr (d : Nds) (room i : Int) (name : ByteArray) (k : Int) : Int :=
  if folderErr d i ≠ 0 then folderErr d i else if (nd d k).kind = 0 then 12 else if (nd d k).kind = 2 ∧ 0 < links d k then 22 else if 32768 ≤ links d k then 24
  else if putErr (nd d i).ents name ≠ 0 then putErr (nd d i).ents name else if room - used d < name.size then 20 else 0
def enterD (d : Nds) (room i : Int) (name : ByteArray) (k : Int) : Nds := if enterErr d room i name k = 0 then enterTo d i name k else d
section
variable {R : RD} {w : World} {a : Nat} {d : Nds} {room : Int} {lk up : Int → Int}
theorem Rep.turnA {R1 : RD} {w1 w2 : World} {d' : Nds} {us : Int} (h : Rep R1 w1 a d' room us lk up) (hT : Turn R w R1 w1) (k : Keeps (fun x => x = a) w1 w2) : Turn R w R1 w2 :=
  hT.trans (Turn.of (k.mono (fun x _ hx => by subst hx; exact h.fA)))
theorem enter_facts {i k : Int} {name : ByteArray} {w1 : World} (hC : Casc R w a d room lk up zp) (hcl : NoGarb d) (hmax : room ≤ 9223372036854775807) (hi : (nd d i).kind = 2) (hk : has d k) (hkl : (nd d k).kind = 2 → links d k = 0)
    (hp : putErr (nd d i).ents name = 0) (hno : (nd d k).kind = 2 → ¬ Above d k i) (hb : mass d + 1 ≤ 2147483648) (hfit : (used d : Int) + name.size ≤ room) (hsz : name.size ≤ 4294967296) (ht : DTo w w1 ⟨R.g i, 5, none⟩ (R.ev i) (putTo (nd d i).ents name k)) :
    Calls Tryz.prog 164 #[.pointer (some ⟨a, 0, none⟩), .int .i64 name.size] w1 fun e w2 => e = .returned (.bool true) ∧ w2.cell? ⟨R.g k, 0, none⟩ = some (.int .i64 (nd d k).kind) ∧ w2.cell? ⟨R.g k, 2, none⟩ = some (.int .i64 (links d k)) ∧ w2.cell? ⟨R.g k, 6, none⟩ = some (.int .i64 (up k)) ∧
      w2.frozen? ⟨R.g k, 2, none⟩ = false ∧ w2.frozen? ⟨R.g k, 6, none⟩ = false ∧
      DiskTo R w a (enterTo d i name k) room (if (nd d k).kind = 2 then (w2.setCell ⟨R.g k, 2, none⟩ (.int .i64 ((links d k : Int) + 1))).setCell ⟨R.g k, 6, none⟩ (.int .i64 i) else w2.setCell ⟨R.g k, 2, none⟩ (.int .i64 ((links d k : Int) + 1))) := by
  have hh := setE_pos hC.inv hi
  have hcnt := hC.cnt k hk
  have hlk : lk k = links d k := by rw [hcnt]; unfold zp; rfl
  rw [← hlk]
  rw [show putTo (nd d i).ents name k = entPut (nd d i).ents name k from if_pos hp] at ht
  obtain ⟨R1, hR1, hT1, hg1, hb1⟩ := hC.rep.setDir hh ht
  have hR1 : Rep R1 w1 a (enterTo d i name k) room (used d) lk up := hR1
  have hul := used_le2 hC.inv hC.small
  refine (take_any hR1 name.size (by omega) (by omega) hmax (by omega) (by omega)).mono fun e w2 ⟨h1, h2, h3⟩ => ?_
  rw [show (decide ((name.size : Int) ≤ room - used d)) = true from decide_eq_true (by omega)] at h1
  rw [show takeU room (used d) name.size = used d + name.size from if_pos (by omega)] at h2
  have hk1 : has (enterTo d i name k) k := (has_setE hh _ k).2 hk
  have hn := h2.node k hk1
  rw [hg1] at hn
  have hkind : (nd (enterTo d i name k) k).kind = (nd d k).kind := kind_setE hh _ k
  refine ⟨h1, by rw [hn.kind, hkind], hn.links, hn.up, hn.fz 2, hn.fz 6, ?_⟩
  have hT2 := hR1.turnA hT1 h3
  have hu := enter_used (k := k) hh hp
  have hR3 := h2.setLinks hk1 (lk k + 1)
  have hsm : smallD (enterTo d i name k) := by unfold smallD; rw [enter_mass hh hp]; omega
  have k1 : Keeps R1.F w2 (w2.setCell ⟨R1.g k, 2, none⟩ (.int .i64 (lk k + 1))) := (Keeps.refl _ _).setCell (.inl (h2.fN hk1)) _
  rw [← hg1]
  by_cases hk2 : (nd d k).kind = 2
  · rw [if_pos hk2]
    have hR4 := hR3.setUp hk1 i
    refine ⟨R1, IsDisk.enter hC hcl hi hk hkl hp hno ?_ hsm (by rw [hu]; omega) hmax, hT2.trans (Turn.of (k1.setCell (.inl (hR3.fN hk1)) _))⟩
    rw [if_pos hk2, hu]
    exact_mod_cast hR4
  · rw [if_neg hk2]
    refine ⟨R1, IsDisk.enter hC hcl hi hk hkl hp hno ?_ hsm (by rw [hu]; omega) hmax, hT2.trans (Turn.of k1)⟩
    rw [if_neg hk2, hu]
    exact_mod_cast hR3
theorem enter_back {i k : Int} {name : ByteArray} {w1 : World} (hC : Casc R w a d room lk up zp) (hcl : NoGarb d) (hfit0 : (used d : Int) ≤ room) (hmax : room ≤ 9223372036854775807) (hi : (nd d i).kind = 2)
    (hp : putErr (nd d i).ents name = 0) (hfit : room - used d < name.size) (hsz : name.size ≤ 4294967296) (ht : DTo w w1 ⟨R.g i, 5, none⟩ (R.ev i) (putTo (nd d i).ents name k)) :
    Calls Tryz.prog 164 #[.pointer (some ⟨a, 0, none⟩), .int .i64 name.size] w1 fun e w2 => e = .returned (.bool false) ∧
      Calls Tryz.prog 190 #[.pointer (some ⟨R.g i, 5, none⟩), .string name] w2 fun e w3 => e = .returned (.int .i64 0) ∧ DiskTo R w a d room w3 := by
  have hh := setE_pos hC.inv hi
  obtain ⟨hok, hhas⟩ := putErr_zero.1 hp
  rw [show putTo (nd d i).ents name k = entPut (nd d i).ents name k from if_pos hp] at ht
  obtain ⟨R1, hR1, hT1, hg1, hb1⟩ := hC.rep.setDir hh ht
  have hR1 : Rep R1 w1 a (enterTo d i name k) room (used d) lk up := hR1
  have hul := used_le2 hC.inv hC.small
  refine (take_any hR1 name.size (by omega) (by omega) hmax (by omega) (by omega)).mono fun e w2 ⟨h1, h2, h3⟩ => ?_
  rw [show (decide ((name.size : Int) ≤ room - used d)) = false from decide_eq_false (by omega)] at h1
  rw [show takeU room (used d) name.size = used d from if_neg (by omega)] at h2
  have hi1 : has (enterTo d i name k) i := (has_setE hh _ i).2 hh
  have hents : (nd (enterTo d i name k) i).ents = entPut (nd d i).ents name k := by unfold enterTo; rw [ents_setE hh, if_pos rfl]
  have hn := (h2.node i hi1).dir
  have hlen := nd_ents_len hC.small i
  have hl2 := len_put (k := k) hhas
  rw [hg1, hents] at hn
  have hlen2 : (nd d i).ents.length ≤ 2147483648 := by
    have h1 := sumBy_ge mass1 (has_range hh).1 (has_range hh).2
    have := hC.small
    unfold smallD mass at this
    unfold mass1 at h1
    unfold mass1 at this
    omega
  refine ⟨h1, (drop_d w2 ⟨R.g i, 5, none⟩ (R1.ev i) _ name hn (by omega)).mono fun e w3 ⟨h4, h5⟩ => ?_⟩
  have hput : entHas (entPut (nd d i).ents name k) name = true := by rw [entHas_put hhas]; simp
  rw [show hasErr (entPut (nd d i).ents name k) name = 0 by unfold hasErr; rw [if_pos hput]] at h4
  rw [entDel_put (hC.inv.node i).rising hhas] at h5
  rw [← hg1] at h5
  obtain ⟨R3, hR3, hT3, _, _⟩ := h2.setDir hi1 h5
  have hd : upd (enterTo d i name k) i ((nd (enterTo d i name k) i).setEnts (nd d i).ents) = d := by
    show setE (setE d i (entPut (nd d i).ents name k)) i (nd d i).ents = d
    rw [setE_setE hh, setE_self hh]
  rw [hd] at hR3
  exact ⟨h4, R3, ⟨⟨lk, up, hC.re hR3⟩, hcl, hfit0, hmax⟩, (hR1.turnA hT1 h3).trans hT3⟩
theorem enter_same {i k : Int} {name : ByteArray} {w1 : World} (hC : Casc R w a d room lk up zp) (hcl : NoGarb d) (hfit0 : (used d : Int) ≤ room) (hmax : room ≤ 9223372036854775807) (hi : (nd d i).kind = 2)
    (hp : putErr (nd d i).ents name ≠ 0) (ht : DTo w w1 ⟨R.g i, 5, none⟩ (R.ev i) (putTo (nd d i).ents name k)) : DiskTo R w a d room w1 := by
  have hh := setE_pos hC.inv hi
  rw [show putTo (nd d i).ents name k = (nd d i).ents from if_neg hp] at ht
  obtain ⟨R1, hR1, hT1, hg1, hb1⟩ := hC.rep.setDir hh ht
  rw [show upd d i ((nd d i).setEnts (nd d i).ents) = d from setE_self hh] at hR1
  exact ⟨R1, ⟨⟨lk, up, hC.re hR1⟩, hcl, hfit0, hmax⟩, hT1⟩
theorem enterD_any (h : IsDisk R w a d room) (i : Int) (name : ByteArray) (k : Int) (hsz : name.size ≤ 4294967296) (hb : mass d + 1 ≤ 2147483648) (hno : folderErr d i = 0 → (nd d k).kind = 2 → ¬ Above d k i) :
    Calls Tryz.prog 126 #[.pointer (some ⟨a, 0, none⟩), .int .i64 i, .string name, .int .i64 k] w fun e w' => e = .returned (.int .i64 (enterErr d room i name k)) ∧ DiskTo R w a (enterD d room i name k) room w' := by
  have H := Lib.hid h
  obtain ⟨⟨lk, up, hC⟩, hcl, hfit, hmax⟩ := h
  have hf := folder_any hC.rep i
  unfold enterD
  by_cases c0 : folderErr d i = 0
  case neg =>
    have e : enterErr d room i name k = folderErr d i := if_pos c0
    rw [e, if_neg c0]
    have hp : ptrIf R (folderErr d i) i = .pointer none := if_neg c0
    rw [hp] at hf
    clear hC hcl hfit hmax e
    generalize folderErr d i = er at *
    go_enter Tryz.func126, Tryz.ntmps126
    go_wp2_with (go_at_call 144; refine hf.mono ?_; rintro e w1 ⟨rfl, rfl⟩)
    go_ret
    exact ⟨rfl, H.out.same (Keeps.refl _ _)⟩
  case pos =>
  obtain ⟨hi, hk1⟩ := folderErr_zero c0
  rw [c0] at hf
  have hp : ptrIf R 0 i = .pointer (some ⟨R.g i, 0, none⟩) := rfl
  rw [hp] at hf
  have hl := hC.rep.l
  have hlook := hC.rep.look k
  unfold nodeV at hlook
  have hE0 : ∀ (P : Int → Prop), P (if (nd d k).kind = 0 then 12 else if (nd d k).kind = 2 ∧ 0 < links d k then 22 else if 32768 ≤ links d k then 24
      else if putErr (nd d i).ents name ≠ 0 then putErr (nd d i).ents name else if room - used d < name.size then 20 else 0) → P (enterErr d room i name k) := fun P hP => by
    unfold enterErr; rw [if_neg (by simpa using c0)]; exact hP
  by_cases hk : has d k
  case neg =>
    rw [if_neg hk] at hlook
    have e : enterErr d room i name k = 12 := hE0 (fun x => x = 12) (if_pos (not_has hk))
    rw [e, if_neg (by decide)]
    clear hC hcl hfit hmax e hE0
    go_enter Tryz.func126, Tryz.ntmps126
    go_wp2_with (go_at_call 144; refine hf.mono ?_; rintro e w1 ⟨rfl, rfl⟩)
    go_ret
    exact ⟨rfl, H.out.same (Keeps.refl _ _)⟩
  case pos =>
  rw [if_pos hk] at hlook
  have hk0 : ¬ (nd d k).kind = 0 := hk
  have hE1 : ∀ (P : Int → Prop), P (if (nd d k).kind = 2 ∧ 0 < links d k then 22 else if 32768 ≤ links d k then 24
      else if putErr (nd d i).ents name ≠ 0 then putErr (nd d i).ents name else if room - used d < name.size then 20 else 0) → P (enterErr d room i name k) := fun P hP => hE0 P (by rw [if_neg hk0]; exact hP)
  have hn := hC.rep.node k hk
  have c1 := hn.kind
  have c2 := hn.links
  have hcnt := hC.cnt k hk
  have hlk : lk k = links d k := by rw [hcnt]; unfold zp; rfl
  rw [hlk] at c2
  by_cases d1 : (nd d k).kind = 2 ∧ 0 < links d k
  · have e : enterErr d room i name k = 22 := hE1 (fun x => x = 22) (if_pos d1)
    rw [e, if_neg (by decide)]
    obtain ⟨d2, d3⟩ := d1
    rw [d2] at c1
    have d3' : (0 : Int) < (links d k : Int) := by omega
    clear hC hcl hfit hmax e hE0 hE1 hn hcnt hlk hk0 hno d2 d3
    generalize (links d k : Int) = lks at *
    go_enter Tryz.func126, Tryz.ntmps126
    go_wp2_with (go_at_call 144; refine hf.mono ?_; rintro e w1 ⟨rfl, rfl⟩)
    go_ret
    exact ⟨rfl, H.out.same (Keeps.refl _ _)⟩
  have hE2 : ∀ (P : Int → Prop), P (if 32768 ≤ links d k then 24
      else if putErr (nd d i).ents name ≠ 0 then putErr (nd d i).ents name else if room - used d < name.size then 20 else 0) → P (enterErr d room i name k) := fun P hP => hE1 P (by rw [if_neg d1]; exact hP)
  have d1' : (nd d k).kind ≠ 2 ∨ ((nd d k).kind = 2 ∧ (links d k : Int) = 0) := by
    by_cases e2 : (nd d k).kind = 2
    · exact .inr ⟨e2, by have := Nat.eq_zero_of_not_pos (fun h => d1 ⟨e2, h⟩); omega⟩
    · exact .inl e2
  have hlen := nd_ents_len hC.small i
  have hdir := (hC.rep.node i hi).dir
  have hput := Lib.hid (put_d w ⟨R.g i, 5, none⟩ (R.ev i) (nd d i).ents name k hdir (by omega))
  by_cases d2 : 32768 ≤ links d k
  · have e : enterErr d room i name k = 24 := hE2 (fun x => x = 24) (if_pos d2)
    rw [e, if_neg (by decide)]
    have d2' : (links d k : Int) ≥ 32768 := by omega
    have d3 : (nd d k).kind ≠ 2 := d1'.elim id (fun h => by have := h.2; omega)
    clear hC hcl hfit hmax e hE0 hE1 hE2 hn hcnt hlk hk0 hno d1 d1' d2 hput hdir hlen
    generalize (links d k : Int) = lks at *
    go_enter Tryz.func126, Tryz.ntmps126
    go_wp2_with (go_at_call 144; refine hf.mono ?_; rintro e w1 ⟨rfl, rfl⟩)
    go_ret
    exact ⟨rfl, H.out.same (Keeps.refl _ _)⟩
  have hE3 : ∀ (P : Int → Prop), P (if putErr (nd d i).ents name ≠ 0 then putErr (nd d i).ents name else if room - used d < name.size then 20 else 0) → P (enterErr d room i name k) := fun P hP => hE2 P (by rw [if_neg d2]; exact hP)
  have d2' : ¬ (32768 ≤ (links d k : Int)) := by omega
  have d2'' : (32768 ≤ (links d k : Int)) = False := by simp; omega
  by_cases d3 : putErr (nd d i).ents name = 0
  case neg =>
    have e : enterErr d room i name k = putErr (nd d i).ents name := hE3 (fun x => x = putErr (nd d i).ents name) (if_pos d3)
    rw [e, if_neg d3]
    have HP := Lib.hid (fun (w1 : World) => enter_same (w1 := w1) (k := k) hC hcl hfit hmax hk1 d3)
    clear hC hcl hfit hmax e hE0 hE1 hE2 hE3 hn hcnt hlk hk0 hno d1 d2 hdir hlen
    generalize putErr (nd d i).ents name = pe at *
    generalize (links d k : Int) = lks at *
    rcases d1' with d4 | ⟨d4, d5⟩
    case' inl => generalize (nd d k).kind = kd at *
    case' inr => rw [d4] at c1; subst d5
    all_goals
      go_enter Tryz.func126, Tryz.ntmps126
      go_wp2_with (first | (go_at_call 144; refine hf.mono ?_; rintro e w1 ⟨rfl, rfl⟩) | (go_at_call 189; refine hput.out.mono ?_; rintro e w1 ⟨rfl, ht⟩))
      go_ret
      exact ⟨rfl, HP.out w1 ht⟩
  case pos =>
  have hE4 : ∀ (P : Int → Prop), P (if room - used d < name.size then 20 else 0) → P (enterErr d room i name k) := fun P hP => hE3 P (by rw [if_neg (by simpa using d3)]; exact hP)
  rw [d3] at hput
  have hkl : (nd d k).kind = 2 → links d k = 0 := fun e => d1'.elim (fun h => absurd e h) (fun h => by have := h.2; omega)
  by_cases d4 : room - used d < name.size
  · have e : enterErr d room i name k = 20 := hE4 (fun x => x = 20) (if_pos d4)
    rw [e, if_neg (by decide)]
    have HP := Lib.hid (fun (w1 : World) => enter_back (w1 := w1) (k := k) hC hcl hfit hmax hk1 d3 d4 hsz)
    clear hC hcl hfit hmax e hE0 hE1 hE2 hE3 hE4 hn hcnt hlk hk0 hno d1 d2 hdir hlen hkl d4 d3
    generalize (links d k : Int) = lks at *
    rcases d1' with d4 | ⟨d4, d5⟩
    case' inl => generalize (nd d k).kind = kd at *
    case' inr => rw [d4] at c1; subst d5
    all_goals
      go_enter Tryz.func126, Tryz.ntmps126
      go_wp2_with (first | (go_at_call 144; refine hf.mono ?_; rintro e w1 ⟨rfl, rfl⟩) | (go_at_call 189; refine hput.out.mono ?_; rintro e w1 ⟨rfl, ht⟩) | (go_at_call 164; refine (HP.out _ ht).mono ?_; rintro e w2 ⟨rfl, hdr⟩) | (go_at_call 190; refine hdr.mono ?_; rintro e w3 ⟨rfl, hend⟩))
      go_ret
      exact ⟨rfl, hend⟩
  · have e : enterErr d room i name k = 0 := hE4 (fun x => x = 0) (if_neg d4)
    rw [e, if_pos rfl]
    have HP := Lib.hid (fun (w1 : World) => enter_facts (w1 := w1) hC hcl hmax hk1 hk hkl d3 (hno c0) hb (by omega) hsz)
    clear hC hcl hfit hmax e hE0 hE1 hE2 hE3 hE4 hn hcnt hlk hk0 hno d1 d2 hdir hlen hkl d4 d3 hb
    have hwr : wrap64 ((links d k : Int) + 1) = (links d k : Int) + 1 := IntWalk.wrap64_in _ (by omega)
    generalize (links d k : Int) = lks at *
    rcases d1' with d4 | ⟨d4, d5⟩
    case' inl => generalize (nd d k).kind = kd at *
    case' inr => rw [d4] at c1 HP; subst d5
    all_goals
      go_enter Tryz.func126, Tryz.ntmps126
      go_wp2_with (first | (go_at_call 144; refine hf.mono ?_; rintro e w1 ⟨rfl, rfl⟩) | (go_at_call 189; refine hput.out.mono ?_; rintro e w1 ⟨rfl, ht⟩) | (go_at_call 164; refine (HP.out _ ht).mono ?_; rintro e w2 ⟨rfl, f0, f2, f6, z2, z6, hend⟩; have HEn := Lib.hid hend; clear hend))
      go_ret
      refine ⟨rfl, ?_⟩
      have hz := HEn.out
      first | (rw [if_neg d4] at hz; exact hz) | (rw [if_pos trivial] at hz; exact hz)
end
end Go.Proofs.YtijbhmledmnifaaGreatDoor

/-
  Contracts of package disk, the tenth part: Leave.
-/
namespace Go.Proofs.YtijbhmledmnifaaGreatDoor
open Go.RowKit
set_option maxRecDepth 100000
set_option maxHeartbeats 1000000
def leaveErr (d : Nds) (i : Int) (name : ByteArray) : Int := if lookErr d i name ≠ 0 then lookErr d i name else if (nd d (lookOf d i name)).ents ≠ [] then 16 else 0
noncomputable def leaveTo (d : Nds) (i : Int) (name : ByteArray) : Nds := if leaveErr d i name = 0 then gc (dropTo d i name) else d
section
variable {R : RD} {w : World} {a : Nat} {d : Nds} {room : Int} {lk up : Int → Int}
theorem lookErr_zero {d : Nds} {i : Int} {name : ByteArray} (h : lookErr d i name = 0) : folderErr d i = 0 ∧ entGet (nd d i).ents name = some (lookOf d i name) := by
  unfold lookErr at h
  unfold lookOf
  split at h
  · next e => exact absurd h e
  · next e =>
    split at h
    · next e2 =>
      obtain ⟨k, hk⟩ := Option.isSome_iff_exists.1 e2
      rw [if_neg e, hk]
      exact ⟨Classical.not_not.1 e, rfl⟩
    · cases h
theorem leave_facts {i k : Int} {name : ByteArray} {w0 w1 : World} (hC : Casc R w0 a d room lk up zp) (hcl : NoGarb d) (hfit : (used d : Int) ≤ room) (hmax : room ≤ 9223372036854775807) (hi : (nd d i).kind = 2)
    (hg : entGet (nd d i).ents name = some k) (ht : DTo w0 w1 ⟨R.g i, 5, none⟩ (R.ev i) (entDel (nd d i).ents name)) :
    w1.cell? ⟨a, 2, none⟩ = some (.int .i64 (used d)) ∧ w1.frozen? ⟨a, 2, none⟩ = false ∧
    Calls Tryz.prog 194 #[.pointer (some ⟨a, 0, none⟩), .int .i64 k] (w1.setCell ⟨a, 2, none⟩ (.int .i64 ((used d : Int) - name.size))) fun e w2 => e = .returned (.tuple #[]) ∧ DiskTo R w0 a (gc (dropTo d i name)) room w2 := by
  have hh := setE_pos hC.inv hi
  obtain ⟨R1, hR1, hT1, hg1, hb1⟩ := hC.rep.setDir hh ht
  have hR1 : Rep R1 w1 a (dropTo d i name) room (used d) lk up := hR1
  have hu := drop_used hC.inv hh hg
  have hR2 := hR1.setUsed ((used d : Int) - name.size)
  have e : (used d : Int) - name.size = (used (dropTo d i name) : Nat) := by omega
  rw [e] at hR2 ⊢
  obtain ⟨hC2, hno⟩ := hC.drop hcl hi hg hR2
  refine ⟨hR1.used, hR1.fz 2, (less_ok _ R1 _ a (dropTo d i name) room lk up (onePend k) k rfl hC2 (onePend_pos k) hno).mono ?_⟩
  rintro e w2 ⟨rfl, R', d', lk', up', h1, h2, h3, h4⟩
  rw [decAt_onePend] at h1 h2
  have hT2 : Turn R w0 R1 (w1.setCell ⟨a, 2, none⟩ (.int .i64 (used (dropTo d i name) : Nat))) := hT1.trans (Turn.of ((Keeps.refl R1.F w1).setCell (p := ⟨a, 2, none⟩) (.inl hR1.fA) _))
  exact ⟨rfl, R', free_end h1 h2 h3 (by omega) hmax, hT2.trans h4⟩
theorem leaveD_any (h : IsDisk R w a d room) (i : Int) (name : ByteArray) :
    Calls Tryz.prog 129 #[.pointer (some ⟨a, 0, none⟩), .int .i64 i, .string name] w fun e w' => e = .returned (.int .i64 (leaveErr d i name)) ∧ DiskTo R w a (leaveTo d i name) room w' := by
  have H := Lib.hid h
  obtain ⟨⟨lk, up, hC⟩, hcl, hfit, hmax⟩ := h
  have hlen := nd_ents_len hC.small
  have hl0 := look_any hC.rep i name (hlen i)
  unfold leaveTo
  by_cases c0 : lookErr d i name = 0
  case neg =>
    have e : leaveErr d i name = lookErr d i name := if_pos c0
    rw [e, if_neg c0]
    clear hC hcl hfit hmax e
    generalize lookErr d i name = er at *
    generalize lookOf d i name = k at *
    go_enter Tryz.func129, Tryz.ntmps129
    go_wp2_with (go_at_call 193; refine hl0.mono ?_; rintro e w1 ⟨rfl, hk⟩)
    go_ret
    exact ⟨rfl, H.out.same hk⟩
  case pos =>
  obtain ⟨f0, hget⟩ := lookErr_zero c0
  have hE : ∀ (P : Int → Prop), P (if (nd d (lookOf d i name)).ents ≠ [] then 16 else 0) → P (leaveErr d i name) := fun P hP => by
    unfold leaveErr; rw [if_neg (by simpa using c0)]; exact hP
  rw [c0] at hl0
  generalize hkk : lookOf d i name = k at *
  obtain ⟨hi, hi2⟩ := folderErr_zero f0
  have hk := (hC.inv.tgt i _ (entGet_mem hget)).1
  have HL := Lib.hid (fun (w1 : World) (hk1 : Keeps NoB w w1) => (⟨(hC.rep.keepN hk1).l, (hC.rep.keepN hk1).look k, (hC.rep.keepN hk1).look i, ((hC.rep.keepN hk1).node k hk).kind⟩ : _ ∧ _ ∧ _ ∧ _))
  unfold nodeV at HL
  rw [if_pos hk, if_pos hi] at HL
  have hflat := (hC.inv.node k).flat
  have hlenK := Lib.hid (fun (w1 : World) (hk1 : Keeps NoB w w1) => len_any (fun _ => True) w1 ⟨R.g k, 5, none⟩ (R.ev k) (nd d k).ents (((hC.rep.keepN hk1).node k hk).dir.any (fun _ _ => trivial)))
  have hul := used_le2 hC.inv hC.small
  have hdrop := Lib.hid (fun (w1 : World) (hk1 : Keeps NoB w w1) => drop_d w1 ⟨R.g i, 5, none⟩ (R.ev i) (nd d i).ents name ((hC.rep.keepN hk1).node i hi).dir (by have := hlen i; omega))
  have hus : name.size ≤ used d := by
    have := drop_used hC.inv hi hget
    omega
  have HP := Lib.hid (fun (w1 w2 : World) (hk1 : Keeps NoB w w1) => leave_facts (w0 := w1) (w1 := w2) (hC.keep hk1 (fun _ _ h => h.elim)) hcl hfit hmax hi2 hget)
  have hhas : hasErr (nd d i).ents name = 0 := by unfold hasErr; rw [if_pos (entGet_has hget)]
  rw [hhas] at hdrop
  by_cases d1 : (nd d k).ents = []
  case neg =>
    have e : leaveErr d i name = 16 := hE (fun x => x = 16) (if_pos d1)
    rw [e, if_neg (by decide)]
    have k2 : (nd d k).kind = 2 := Classical.byContradiction (fun h => d1 (hflat h))
    rw [k2] at HL
    have hpos : (0 : Int) < (nd d k).ents.length := by
      have := List.length_pos_iff.2 d1
      omega
    clear hC hcl hfit hmax e hE hflat hul hdrop hus HP hlen hhas d1
    generalize ((nd d k).ents.length : Int) = ln at *
    go_enter Tryz.func129, Tryz.ntmps129
    go_wp2_with (first | (go_at_call 193; refine hl0.mono ?_; rintro e w1 ⟨rfl, hk1⟩; obtain ⟨l1, l2, l3, l4⟩ := HL.out w1 hk1) | (go_at_call 98; refine (hlenK.out _ hk1).mono ?_; rintro e w2 ⟨rfl, rfl⟩))
    go_ret
    exact ⟨rfl, H.out.same hk1⟩
  case pos =>
    have e : leaveErr d i name = 0 := hE (fun x => x = 0) (if_neg (by simpa using d1))
    rw [e, if_pos rfl]
    rw [d1] at hlenK
    have hwr : wrap64 ((used d : Int) - name.size) = (used d : Int) - name.size := IntWalk.wrap64_in _ (by omega)
    clear hC hcl hfit hmax e hE hflat hul hlen hhas d1 hus
    generalize (used d : Int) = us at *
    by_cases k2 : (nd d k).kind = 2
    case' pos => rw [k2] at HL
    case' neg => generalize (nd d k).kind = kd at *
    all_goals
      go_enter Tryz.func129, Tryz.ntmps129
      go_wp2_with (first | (go_at_call 193; refine hl0.mono ?_; rintro e w1 ⟨rfl, hk1⟩; obtain ⟨l1, l2, l3, l4⟩ := HL.out w1 hk1) | (go_at_call 98; refine (hlenK.out _ hk1).mono ?_; rintro e w2 ⟨rfl, rfl⟩) | (go_at_call 190; refine (hdrop.out _ hk1).mono ?_; rintro e w2 ⟨rfl, ht⟩; obtain ⟨u1, u2, hless⟩ := HP.out _ _ hk1 ht; have HLs := Lib.hid hless; clear hless) | (go_at_call 194; refine HLs.out.mono ?_; rintro e w3 ⟨rfl, hend⟩))
      go_ret
      exact ⟨rfl, hend.after hk1⟩
end
end Go.Proofs.YtijbhmledmnifaaGreatDoor

/-
  Directories and those above them: the pure part.
-/
set_option maxRecDepth 100000
namespace Go.Proofs.YtijbhmledmnifaaGreatDoor
open Go.RowKit
theorem AboveR.trans {P : Int → Int → Prop} {a b c : Int} (h : AboveR P a b) (k : AboveR P b c) : AboveR P a c := by
  induction k with
  | self => exact h
  | step hp _ ih => exact .step hp ih
theorem acc_cycle {P : Int → Int → Prop} {i : Int} (h : Acc P i) : ∀ j, P j i → AboveR P i j → False := by
  induction h with
  | intro i _ ih =>
    intro j hj ha
    cases ha with
    | self => exact ih i hj i hj .self
    | step hp h2 => exact ih j hj _ hp (AboveR.trans (.step hj .self) h2)
theorem countP_lt {α : Type} {p q : α → Bool} {l : List α} (h : ∀ x ∈ l, p x = true → q x = true) (he : ∃ x ∈ l, q x = true ∧ p x = false) : l.countP p < l.countP q := by
  induction l with
  | nil => obtain ⟨x, hx, _⟩ := he; cases hx
  | cons a l ih =>
    rw [List.countP_cons, List.countP_cons]
    have hle : l.countP p ≤ l.countP q := List.countP_mono_left (fun x hx => h x (List.mem_cons_of_mem _ hx))
    obtain ⟨x, hx, h1, h2⟩ := he
    rcases List.mem_cons.1 hx with rfl | hx
    · rw [h1, h2]; simp; omega
    · have := ih (fun x hx => h x (List.mem_cons_of_mem _ hx)) ⟨x, hx, h1, h2⟩
      have ha := h a List.mem_cons_self
      cases h3 : p a with
      | false => simp only [Bool.false_eq_true, if_false, Nat.add_zero]; omega
      | true => rw [ha h3]; simp only [if_true]; omega
open Classical in
/-- How many directories are i, or above i. -/
noncomputable def ancs (d : Nds) (i : Int) : Nat := (List.range d.length).countP fun (k : Nat) => decide (Above d (k : Int) i)
theorem ancs_le (d : Nds) (i : Int) : ancs d i ≤ d.length := by
  unfold ancs
  have := List.countP_le_length (p := fun k => @decide (Above d ((k : Nat) : Int) i) (Classical.propDecidable _)) (l := List.range d.length)
  rw [List.length_range] at this
  exact this
theorem ancs_lt {d : Nds} (h : DInv d) {i j : Int} (hp : Par d j i) : ancs d j < ancs d i := by
  unfold ancs
  have hi : has d i := by unfold has; rw [hp.1]; decide
  have hr := has_range hi
  refine countP_lt (fun x _ hx => ?_) ⟨i.toNat, List.mem_range.2 hr.2, ?_, ?_⟩
  · simp only [decide_eq_true_eq] at hx ⊢
    exact .step hp hx
  · simp only [decide_eq_true_eq]
    rw [Int.toNat_of_nonneg hr.1]
    exact .self
  · simp only [decide_eq_false_iff_not]
    rw [Int.toNat_of_nonneg hr.1]
    exact fun ha => acc_cycle (h.acyc i) j hp ha
theorem ancs_pos {d : Nds} {i : Int} (hi : has d i) : 0 < ancs d i := by
  have hr := has_range hi
  unfold ancs
  rw [List.countP_pos_iff]
  refine ⟨i.toNat, List.mem_range.2 hr.2, ?_⟩
  simp only [decide_eq_true_eq]
  rw [Int.toNat_of_nonneg hr.1]
  exact .self
theorem Par.dir {d : Nds} (h : DInv d) {j i : Int} (hp : Par d j i) : (nd d j).kind = 2 := by
  obtain ⟨_, e, he, _⟩ := hp
  refine Classical.byContradiction fun hk => ?_
  rw [(h.node j).flat hk] at he; cases he
theorem above_top {d : Nds} {k i : Int} (hno : ∀ j, ¬ Par d j i) : Above d k i ↔ k = i := by
  constructor
  · intro h
    cases h with
    | self => rfl
    | step hp _ => exact absurd hp (hno _)
  · rintro rfl; exact .self
theorem above_par {d : Nds} (h : DInv d) {k i j : Int} (hp : Par d j i) (hne : k ≠ i) : Above d k i ↔ Above d k j := by
  constructor
  · intro ha
    cases ha with
    | self => exact absurd rfl hne
    | step hp2 h2 => rw [h.par_one hp hp2]; exact h2
  · exact .step hp
theorem no_par_root {d : Nds} (h : DInv d) (j : Int) : ¬ Par d j 1 := fun ⟨_, e, he, h2⟩ => (h.tgt j e he).2 h2
theorem no_par_cnt {d : Nds} {i : Int} (hc : cnt d i = 0) (j : Int) : ¬ Par d j i := fun ⟨_, e, he, h2⟩ => by
  have := cnt_pos.2 ⟨j, e, he, h2⟩
  omega
def UpIs (d : Nds) (i u : Int) : Prop := (cnt d i = 0 ∧ u = 1) ∨ ∃ e, e ∈ (nd d u).ents ∧ e.2 = i
theorem UpIs.par {d : Nds} {i u : Int} (h : UpIs d i u) (hk : (nd d i).kind = 2) : (cnt d i = 0 ∧ u = 1) ∨ Par d u i := by
  rcases h with h | ⟨e, h1, h2⟩
  · exact .inl h
  · exact .inr ⟨hk, e, h1, h2⟩
end Go.Proofs.YtijbhmledmnifaaGreatDoor

/-
  Contracts of package disk, the twelfth part: gives, below.
-/
namespace Go.Proofs.YtijbhmledmnifaaGreatDoor
open Go.RowKit
set_option maxRecDepth 100000
set_option maxHeartbeats 1000000
def givesErr (d : Nds) (k old : Int) : Int :=
  if (nd d k).kind = 2 ∧ (nd d old).kind ≠ 2 then 14 else if (nd d k).kind ≠ 2 ∧ (nd d old).kind = 2 then 15 else if (nd d old).ents ≠ [] then 16 else 0
section
variable {R : RD} {w : World} {a : Nat} {d : Nds} {room us : Int} {lk up : Int → Int}
theorem gives_any (h : Rep R w a d room us lk up) (hI : DInv d) (k old : Int) (hk : has d k) (ho : has d old) :
    Calls Tryz.prog 201 #[.pointer (some ⟨a, 0, none⟩), .pointer (some ⟨R.g k, 0, none⟩), .pointer (some ⟨R.g old, 0, none⟩)] w fun e w' => e = .returned (.int .i64 (givesErr d k old)) ∧ w = w' := by
  have c0 := (h.node k hk).kind
  have d0 := (h.node old ho).kind
  have hlen := Lib.hid (len_any (fun _ => True) w ⟨R.g old, 5, none⟩ (R.ev old) (nd d old).ents ((h.node old ho).dir.any (fun _ _ => trivial)))
  have hflat := (hI.node old).flat
  unfold givesErr
  have he : (nd d old).ents ≠ [] ↔ 0 < (nd d old).ents.length := by rw [List.length_pos_iff]
  have hf2 : (nd d old).kind ≠ 2 → ¬ 0 < (nd d old).ents.length := fun h2 => by rw [hflat h2]; simp
  simp only [he]
  clear h hI he hflat
  generalize (nd d old).ents.length = ln at *
  generalize (nd d k).kind = kk at *
  generalize (nd d old).kind = ko at *
  have hb : ∀ x : Int, (x = 2 ∧ (x == 2) = true ∧ (x != 2) = false) ∨ (x ≠ 2 ∧ (x == 2) = false ∧ (x != 2) = true) := fun x => by
    by_cases h : x = 2
    · exact .inl ⟨h, by simpa using h, by simpa using h⟩
    · exact .inr ⟨h, by simpa using h, by simpa using h⟩
  have hl : (0 < ln ∧ (0 : Int) < (ln : Int)) ∨ (¬ 0 < ln ∧ ¬ (0 : Int) < (ln : Int)) := by omega
  rcases hb kk with ⟨a1, a2, a3⟩ | ⟨a1, a2, a3⟩ <;> rcases hb ko with ⟨b1, b2, b3⟩ | ⟨b1, b2, b3⟩ <;> rcases hl with ⟨l1, l2⟩ | ⟨l1, l2⟩
  all_goals first | exact absurd l1 (hf2 b1) | skip
  all_goals
    simp only [a1, b1, l1, ne_eq, not_true_eq_false, not_false_eq_true, and_true, and_false, true_and, false_and, if_true, if_false]
    clear hb hf2
    (try subst a1)
    (try subst b1)
    go_enter Tryz.func201, Tryz.ntmps201
    go_wp2_with (go_at_call 98; refine hlen.out.mono ?_; rintro e w1 ⟨rfl, rfl⟩)
    go_ret
    exact ⟨rfl, rfl⟩
open Classical in
noncomputable def muB (d : Nds) (x : Int) : Nat := if x = 0 then 0 else ancs d x + 1
def SaysW (w w' : World) (e : Ending) (P : Prop) : Prop := ∃ b : Bool, e = .returned (.bool b) ∧ (b = true ↔ P) ∧ w = w'
theorem up_step (hI : DInv d) (hup : UpOk d lk up) (hcnt : ∀ i, has d i → lk i = (links d i : Nat)) (top i x : Int) (hx : (nd d x).kind = 2) (hne : x ≠ top) (h1 : x ≠ 1) (hiff : Above d top x ↔ Above d top i) :
    (((nd d (up x)).kind = 2 ∧ (Above d top (up x) ↔ Above d top i)) ∨ (up x = 0 ∧ ¬ Above d top i)) ∧ muB d (up x) < muB d x := by
  have hh := setE_pos hI hx
  have hp := hI.pos hh
  obtain ⟨u1, u2, u3⟩ := hup x hh
  have hmx : muB d x = ancs d x + 1 := by unfold muB; rw [if_neg (by omega)]
  by_cases hc : cnt d x = 0
  · have h0 := u3 (by rw [hcnt x hh]; unfold links; rw [hc, if_neg h1]; rfl)
    refine ⟨.inr ⟨h0, fun ha => ?_⟩, ?_⟩
    · exact hne ((above_top (no_par_cnt hc)).1 (hiff.2 ha)).symm
    · rw [h0, hmx]; unfold muB; rw [if_pos rfl]; omega
  · obtain ⟨j, e, he, h2⟩ := cnt_pos.1 (Nat.pos_of_ne_zero hc)
    have hP : Par d j x := ⟨hx, e, he, h2⟩
    have hu := u1 j hP
    rw [hu]
    have hl := ancs_lt hI hP
    refine ⟨.inl ⟨hP.dir hI, ?_⟩, ?_⟩
    · rw [← hiff, above_par hI hP (fun e => hne e.symm)]
    · rw [hmx]; unfold muB; split <;> omega
theorem below_any {pend : Int → Nat} (hC : Casc R w a d room lk up pend) (hz : pend = zp) (i top : Int) (hi : (nd d i).kind = 2) (ht : has d top) (ht1 : top ≠ 1) :
    Calls Tryz.prog 200 #[.pointer (some ⟨a, 0, none⟩), .int .i64 i, .int .i64 top] w fun e w' => SaysW w w' e (Above d top i) := by
  subst hz
  have hl := hC.rep.l
  have HLk := Lib.hid hC.rep.look
  have HN := Lib.hid hC.rep.node
  have hcnt : ∀ i, has d i → lk i = (links d i : Nat) := fun j hj => by have := hC.cnt j hj; unfold zp at this; exact this
  have HS := Lib.hid (up_step hC.inv hC.upok hcnt top i)
  have HI := Lib.hid hC.inv
  have ht0 : top ≠ 0 := fun e => by subst e; unfold has at ht; rw [hC.inv.zero] at ht; exact ht rfl
  have HT : Hid (¬ Above d top 1) := fun ha => ht1 ((above_top (no_par_root HI.out)).1 ha)
  clear hC hcnt
  go_enter Tryz.func200, Tryz.ntmps200
  go_wp2
  refine wp_scope_goto 0 (fun a' w' => ∃ x : Int, ∃ (u3 u4 u5 u7 u8 u9 u10 u11 u12 u13 u14 u15 u16 u17 u18 u19 u20 u21 u22 u23 u24 u25 u26 : Value), a' = { tmps := #[.pointer (some ⟨a, 0, none⟩), .int .i64 x, .int .i64 top, u3, u4, u5, .bool false, u7, u8, u9, u10, u11, u12, u13, u14, u15, u16, u17, u18, u19, u20, u21, u22, u23, u24, u25, u26], defers := [] } ∧ w' = w ∧ (((nd d x).kind = 2 ∧ (Above d top x ↔ Above d top i)) ∨ (x = 0 ∧ ¬ Above d top i))) (fun a' _ => muB d (intOf (a'.tmps.getD 1 undef))) rfl ?_ ?_
  · intro HJ
    have HJ' := Lib.hid HJ
    clear HJ
    go_wp2
    go_step3
    go_step
    go_step
    refine HJ'.out _ _ ?_
    exact ⟨i, _, _, _, _, _, _, _, _, _, _, _, _, _, _, _, _, _, _, _, _, _, _, _, rfl, rfl, .inl ⟨hi, Iff.rfl⟩⟩
  · rintro a' w1 ⟨x, u3, u4, u5, u7, u8, u9, u10, u11, u12, u13, u14, u15, u16, u17, u18, u19, u20, u21, u22, u23, u24, u25, u26, rfl, rfl, hx⟩
    have Hx := Lib.hid hx
    by_cases e1 : x = top
    · have hb : (x == top) = true := by simpa using e1
      have He := Lib.hid e1
      clear e1 hx
      go_wp2
      simp only [Exit.jump]
      go_ret
      refine ⟨true, rfl, ⟨fun _ => ?_, fun _ => rfl⟩, rfl⟩
      rcases Hx.out with ⟨h1, h2⟩ | ⟨h1, h2⟩
      · rw [← h2, He.out]; exact .self
      · exact absurd (He.out.symm.trans h1) ht0
    · have hb : (x == top) = false := by simpa using e1
      have hlk := HLk.out x
      unfold nodeV at hlk
      have He := Lib.hid e1
      clear e1
      by_cases hh : has d x
      · rw [if_pos hh] at hlk
        have hup := (HN.out x hh).up
        have hx2 := hx.resolve_right (fun h => by have := h.1; subst this; unfold has at hh; rw [HI.out.zero] at hh; exact hh rfl)
        have Hx2 := Lib.hid hx2
        clear hx hx2 hh
        by_cases e2 : x = 1
        · have hb1 : (x == 1) = true := by simpa using e2
          have He2 := Lib.hid e2
          clear e2
          go_wp2
          simp only [Exit.jump]
          go_ret
          refine ⟨false, rfl, ⟨(fun h => by cases h), fun h => ?_⟩, rfl⟩
          have := Hx2.out.2.2 h
          rw [He2.out] at this
          exact absurd this HT.out
        · have hb1 : (x == 1) = false := by simpa using e2
          have He2 := Lib.hid e2
          clear e2
          have hst := HS.out x Hx2.out.1 He.out He2.out Hx2.out.2
          go_wp2
          go_step3
          refine ⟨rfl, ⟨up x, _, _, _, _, _, _, _, _, _, _, _, _, _, _, _, _, _, _, _, _, _, _, _, rfl, rfl, hst.1⟩, ?_⟩
          simpa [intOf] using hst.2
      · rw [if_neg hh] at hlk
        have hx2 : x = 0 ∧ ¬ Above d top i := by
          rcases hx with ⟨h1, _⟩ | h
          · exact absurd (setE_pos HI.out h1) hh
          · exact h
        have Hx2 := Lib.hid hx2
        clear hx hx2 hh
        go_wp2
        simp only [Exit.jump]
        go_ret
        exact ⟨false, rfl, ⟨(fun h => by cases h), fun h => absurd h Hx2.out.2⟩, rfl⟩
end
end Go.Proofs.YtijbhmledmnifaaGreatDoor

/-
  Contracts of package disk, the thirteenth part: moved.
-/
namespace Go.Proofs.YtijbhmledmnifaaGreatDoor
open Go.RowKit
set_option maxRecDepth 100000
set_option maxHeartbeats 1000000
def movedErr (d : Nds) (room : Int) (t : Int) (other name : ByteArray) : Int :=
  if entHas (nd d t).ents other = true then 0 else if putErr (nd d t).ents other ≠ 0 then putErr (nd d t).ents other else if room - used d < (other.size : Int) - name.size then 20 else 0
theorem MoveOk.mk' {d : Nds} {f t k : Int} {name other : ByteArray} (hI : DInv d) (f2 : (nd d f).kind = 2) (t2 : (nd d t).kind = 2) (hg : entGet (nd d f).ents name = some k) (hne : entGet (nd d t).ents other ≠ some k)
    (hp : entHas (nd d t).ents other = false → putErr (nd d t).ents other = 0) (top : (nd d k).kind = 2 → ¬ Above d k t) : MoveOk d f name t other k :=
  ⟨hI, f2, t2, hg, fun ⟨h1, h2⟩ => hne (by rw [← h1, ← h2]; exact hg), hp, top⟩
theorem okName_size {s : ByteArray} (h : okName s = true) : s.size ≤ 255 := by
  simp [okName] at h
  omega
section
variable {R : RD} {w : World} {a : Nat} {d : Nds} {room us : Int} {lk up : Int → Int} {f t k : Int} {name other : ByteArray}
theorem MoveOk.size_name (M : MoveOk d f name t other k) : name.size ≤ 255 := okName_size ((M.inv.node f).names _ (entGet_mem M.get))
theorem MoveOk.size_other (M : MoveOk d f name t other k) : other.size ≤ 255 := okName_size M.okOther
theorem MoveOk.len_mid (M : MoveOk d f name t other k) (hs : smallD d) (j : Int) : (nd (moveMid d t other k) j).ents.length < 4294967295 := by
  have h1 : ∀ i, (nd d i).ents.length ≤ 2147483648 := fun i => by
    by_cases hh : 0 ≤ i ∧ i.toNat < d.length
    · have h1 := sumBy_ge mass1 hh.1 hh.2
      unfold smallD Go.Proofs.YtijbhmledmnifaaGreatDoor.mass at hs
      unfold mass1 at hs h1
      omega
    · rw [nd_gone hh]; decide
  unfold moveMid
  rw [ents_setE M.ht]
  have := h1 t
  have := h1 j
  split
  · unfold movedAt
    cases hh : entHas (nd d t).ents other with
    | false => simp only [Bool.false_eq_true, if_false]; rw [len_put hh]; omega
    | true => simp only [if_true]; rw [len_set]; omega
  · omega
def MovedEnd (R : RD) (w : World) (a : Nat) (d : Nds) (room : Int) (f : Int) (name : ByteArray) (t : Int) (other : ByteArray) (k : Int) (w2 : World) : Prop :=
  (∀ old, entGet (nd d t).ents other = some old → Calls Tryz.prog 194 #[.pointer (some ⟨a, 0, none⟩), .int .i64 old] w2 fun e w3 => e = .returned (.tuple #[]) ∧ DiskTo R w a (gc (moveTo d f name t other k)) room w3) ∧
  (entGet (nd d t).ents other = none → DiskTo R w a (gc (moveTo d f name t other k)) room w2)
theorem moved_end {R1 : RD} {w1 : World} {us1 : Int} (M : MoveOk d f name t other k) (hC : Casc R w a d room lk up zp) (hcl : NoGarb d) (hmax : room ≤ 9223372036854775807)
    (hR1 : Rep R1 w1 a (moveMid d t other k) room us1 lk up) (hT : Turn R w R1 w1) (hg : R1.g = R.g) (hus : us1 - name.size = used (moveTo d f name t other k)) (hfit : (used (moveTo d f name t other k) : Int) ≤ room) :
    w1.cell? ⟨a, 0, none⟩ = some (.map (some R1.b)) ∧ (Instr.lookup 172 (.map (some R1.b)) (.int .i64 f) false).run Tryz.prog w1 = .ok (.pointer (some ⟨R.g f, 0, none⟩)) w1 ∧
    Calls Tryz.prog 190 #[.pointer (some ⟨R.g f, 5, none⟩), .string name] w1 fun e w2 => e = .returned (.int .i64 0) ∧ w2.cell? ⟨a, 2, none⟩ = some (.int .i64 us1) ∧ w2.frozen? ⟨a, 2, none⟩ = false ∧
      w2.cell? ⟨R.g k, 0, none⟩ = some (.int .i64 (nd d k).kind) ∧ w2.cell? ⟨R.g k, 6, none⟩ = some (.int .i64 (up k)) ∧ w2.frozen? ⟨R.g k, 6, none⟩ = false ∧
      MovedEnd R w a d room f name t other k (if (nd d k).kind = 2 then (w2.setCell ⟨a, 2, none⟩ (.int .i64 (us1 - name.size))).setCell ⟨R.g k, 6, none⟩ (.int .i64 t) else w2.setCell ⟨a, 2, none⟩ (.int .i64 (us1 - name.size))) := by
  have hfm := M.hfm
  have hlk := hR1.look f
  unfold nodeV at hlk
  rw [if_pos hfm, hg] at hlk
  have hn := (hR1.node f hfm).dir
  rw [hg] at hn
  refine ⟨hR1.l, hlk, (drop_d w1 ⟨R.g f, 5, none⟩ (R1.ev f) _ name hn (M.len_mid hC.small f)).mono fun e w2 ⟨h4, h5⟩ => ?_⟩
  rw [show hasErr (nd (moveMid d t other k) f).ents name = 0 by unfold hasErr; rw [if_pos (entGet_has M.get_mid)]] at h4
  rw [← hg] at h5
  obtain ⟨R2, hR2, hT2, hg2, hb2⟩ := hR1.setDir hfm h5
  have hR2 : Rep R2 w2 a (moveTo d f name t other k) room us1 lk up := hR2
  have hk2 : has (moveTo d f name t other k) k := (M.has k).2 M.hk
  have hnk := hR2.node k hk2
  rw [hg2, hg] at hnk
  have hR3 := hR2.setUsed (us1 - name.size)
  have kk : Keeps R2.F w2 (w2.setCell ⟨a, 2, none⟩ (.int .i64 (us1 - name.size))) := (Keeps.refl R2.F w2).setCell (p := ⟨a, 2, none⟩) (.inl hR2.fA) _
  refine ⟨h4, hR2.used, hR2.fz 2, by rw [hnk.kind, M.kind], hnk.up, hnk.fz 6, ?_⟩
  have key : ∀ W, Rep R2 W a (moveTo d f name t other k) room (used (moveTo d f name t other k)) lk (if (nd d k).kind = 2 then setAt up k t else up) → Keeps R2.F w2 W → MovedEnd R w a d room f name t other k W := by
    intro W hRW hkW
    have hTW : Turn R w R2 W := (hT.trans hT2).trans (Turn.of hkW)
    obtain ⟨hC2, hno⟩ := M.casc hC hcl hRW
    refine ⟨fun old ho => ?_, fun ho => ?_⟩
    · have hpe : movePend d t other = onePend old := by unfold movePend; rw [ho]
      rw [hpe] at hC2 hno
      refine (less_ok _ R2 _ a (moveTo d f name t other k) room lk _ (onePend old) old rfl hC2 (onePend_pos old) hno).mono ?_
      rintro e w3 ⟨rfl, R', d', lk', up', h1, h2, h3, h4⟩
      rw [decAt_onePend] at h1 h2
      exact ⟨rfl, R', free_end h1 h2 h3 hfit hmax, hTW.trans h4⟩
    · have hpe : movePend d t other = zp := by unfold movePend; rw [ho]
      rw [hpe] at hC2 hno
      exact ⟨R2, free_end hC2 hno (Kills.refl _) hfit hmax, hTW⟩
  have e1 : (used (moveTo d f name t other k) : Int) = us1 - name.size := hus.symm
  by_cases hkk : (nd d k).kind = 2
  · rw [if_pos hkk]
    rw [← hg, ← hg2]
    have hR4 := hR3.setUp hk2 t
    refine key _ ?_ (kk.setCell (.inl (hR3.fN hk2)) _)
    rw [if_pos hkk, e1]
    exact hR4
  · rw [if_neg hkk]
    refine key _ ?_ kk
    rw [if_neg hkk, e1]
    exact hR3
theorem moved_set {old : Int} {w1 : World} (M : MoveOk d f name t other k) (hC : Casc R w a d room lk up zp) (hcl : NoGarb d) (hfit : (used d : Int) ≤ room) (hmax : room ≤ 9223372036854775807) (ho : entGet (nd d t).ents other = some old)
    (ht : DTo w w1 ⟨R.g t, 5, none⟩ (R.ev t) (entSet (nd d t).ents other k)) :
    ∃ R1 : RD, R1.b = R.b ∧ w1.cell? ⟨a, 0, none⟩ = some (.map (some R1.b)) ∧ (Instr.lookup 172 (.map (some R1.b)) (.int .i64 f) false).run Tryz.prog w1 = .ok (.pointer (some ⟨R.g f, 0, none⟩)) w1 ∧
    Calls Tryz.prog 190 #[.pointer (some ⟨R.g f, 5, none⟩), .string name] w1 fun e w2 => e = .returned (.int .i64 0) ∧ w2.cell? ⟨a, 2, none⟩ = some (.int .i64 (used d)) ∧ w2.frozen? ⟨a, 2, none⟩ = false ∧
      w2.cell? ⟨R.g k, 0, none⟩ = some (.int .i64 (nd d k).kind) ∧ w2.cell? ⟨R.g k, 6, none⟩ = some (.int .i64 (up k)) ∧ w2.frozen? ⟨R.g k, 6, none⟩ = false ∧
      MovedEnd R w a d room f name t other k (if (nd d k).kind = 2 then (w2.setCell ⟨a, 2, none⟩ (.int .i64 ((used d : Int) - name.size))).setCell ⟨R.g k, 6, none⟩ (.int .i64 t) else w2.setCell ⟨a, 2, none⟩ (.int .i64 ((used d : Int) - name.size))) := by
  have e : entSet (nd d t).ents other k = movedAt d t other k := by unfold movedAt; rw [if_pos (entGet_has ho)]
  rw [e] at ht
  obtain ⟨R1, hR1, hT1, hg1, hb1⟩ := hC.rep.setDir M.ht ht
  have hR1 : Rep R1 w1 a (moveMid d t other k) room (used d) lk up := hR1
  have hu := M.used
  rw [if_pos (entGet_has ho)] at hu
  exact ⟨R1, hb1, moved_end M hC hcl hmax hR1 hT1 hg1 (by omega) (by omega)⟩
theorem moved_put {w1 : World} (M : MoveOk d f name t other k) (hC : Casc R w a d room lk up zp) (hcl : NoGarb d) (hfit : (used d : Int) ≤ room) (hmax : room ≤ 9223372036854775807) (ho : entGet (nd d t).ents other = none)
    (hroom : (other.size : Int) - name.size ≤ room - used d) (ht : DTo w w1 ⟨R.g t, 5, none⟩ (R.ev t) (putTo (nd d t).ents other k)) :
    Calls Tryz.prog 164 #[.pointer (some ⟨a, 0, none⟩), .int .i64 ((other.size : Int) - name.size)] w1 fun e w2 => e = .returned (.bool true) ∧ w2.cell? ⟨a, 2, none⟩ = some (.int .i64 ((used d : Int) + ((other.size : Int) - name.size))) ∧ w2.frozen? ⟨a, 2, none⟩ = false ∧
    ∃ b : Nat, ∃ W : World, W = w2.setCell ⟨a, 2, none⟩ (.int .i64 ((used d : Int) + other.size)) ∧ W.cell? ⟨a, 0, none⟩ = some (.map (some b)) ∧ (Instr.lookup 172 (.map (some b)) (.int .i64 f) false).run Tryz.prog W = .ok (.pointer (some ⟨R.g f, 0, none⟩)) W ∧
    Calls Tryz.prog 190 #[.pointer (some ⟨R.g f, 5, none⟩), .string name] W fun e w2 => e = .returned (.int .i64 0) ∧ w2.cell? ⟨a, 2, none⟩ = some (.int .i64 ((used d : Int) + other.size)) ∧ w2.frozen? ⟨a, 2, none⟩ = false ∧
      w2.cell? ⟨R.g k, 0, none⟩ = some (.int .i64 (nd d k).kind) ∧ w2.cell? ⟨R.g k, 6, none⟩ = some (.int .i64 (up k)) ∧ w2.frozen? ⟨R.g k, 6, none⟩ = false ∧
      MovedEnd R w a d room f name t other k (if (nd d k).kind = 2 then (w2.setCell ⟨a, 2, none⟩ (.int .i64 ((used d : Int) + other.size - name.size))).setCell ⟨R.g k, 6, none⟩ (.int .i64 t) else w2.setCell ⟨a, 2, none⟩ (.int .i64 ((used d : Int) + other.size - name.size))) := by
  have hh : entHas (nd d t).ents other = false := by rw [← entGet_isSome, ho]; rfl
  have hp := M.put hh
  have e : putTo (nd d t).ents other k = movedAt d t other k := by unfold movedAt putTo; rw [if_pos hp, hh]; simp
  rw [e] at ht
  obtain ⟨R1, hR1, hT1, hg1, hb1⟩ := hC.rep.setDir M.ht ht
  have hR1 : Rep R1 w1 a (moveMid d t other k) room (used d) lk up := hR1
  have hu := M.used
  rw [hh] at hu
  simp only [Bool.false_eq_true, if_false] at hu
  have hs1 := M.size_name
  have hs2 := M.size_other
  refine (take_any hR1 ((other.size : Int) - name.size) (by omega) (by omega) hmax (by omega) (by omega)).mono fun e w2 ⟨h1, h2, h3⟩ => ?_
  rw [show (decide ((other.size : Int) - name.size ≤ room - used d)) = true from decide_eq_true (by omega)] at h1
  rw [show takeU room (used d) ((other.size : Int) - name.size) = used d + ((other.size : Int) - name.size) from if_pos (by omega)] at h2
  have hT2 := hR1.turnA hT1 h3
  have hR3 := h2.setUsed ((used d : Int) + other.size)
  have hT3 : Turn R w R1 (w2.setCell ⟨a, 2, none⟩ (.int .i64 ((used d : Int) + other.size))) := hT2.trans (Turn.of ((Keeps.refl R1.F w2).setCell (p := ⟨a, 2, none⟩) (.inl h2.fA) _))
  obtain ⟨f1, f2, f3⟩ := moved_end M hC hcl hmax hR3 hT3 hg1 (by omega) (by omega)
  exact ⟨h1, h2.used, h2.fz 2, R1.b, _, rfl, f1, f2, f3⟩
theorem moved_back {i k : Int} {name : ByteArray} {w1 : World} {n : Int} (hC : Casc R w a d room lk up zp) (hcl : NoGarb d) (hfit0 : (used d : Int) ≤ room) (hmax : room ≤ 9223372036854775807) (hi : (nd d i).kind = 2)
    (hp : putErr (nd d i).ents name = 0) (hfit : room - used d < n) (hn1 : n ≤ 4611686018427387904) (ht : DTo w w1 ⟨R.g i, 5, none⟩ (R.ev i) (putTo (nd d i).ents name k)) :
    Calls Tryz.prog 164 #[.pointer (some ⟨a, 0, none⟩), .int .i64 n] w1 fun e w2 => e = .returned (.bool false) ∧
      Calls Tryz.prog 190 #[.pointer (some ⟨R.g i, 5, none⟩), .string name] w2 fun e w3 => e = .returned (.int .i64 0) ∧ DiskTo R w a d room w3 := by
  have hh := setE_pos hC.inv hi
  obtain ⟨hok, hhas⟩ := putErr_zero.1 hp
  rw [show putTo (nd d i).ents name k = entPut (nd d i).ents name k from if_pos hp] at ht
  obtain ⟨R1, hR1, hT1, hg1, hb1⟩ := hC.rep.setDir hh ht
  have hR1 : Rep R1 w1 a (enterTo d i name k) room (used d) lk up := hR1
  have hul := used_le2 hC.inv hC.small
  refine (take_any hR1 n (by omega) (by omega) hmax (by omega) (by omega)).mono fun e w2 ⟨h1, h2, h3⟩ => ?_
  rw [show (decide (n ≤ room - used d)) = false from decide_eq_false (by omega)] at h1
  rw [show takeU room (used d) n = used d from if_neg (by omega)] at h2
  have hi1 : has (enterTo d i name k) i := (has_setE hh _ i).2 hh
  have hents : (nd (enterTo d i name k) i).ents = entPut (nd d i).ents name k := by unfold enterTo; rw [ents_setE hh, if_pos rfl]
  have hn := (h2.node i hi1).dir
  have hlen := nd_ents_len hC.small i
  have hl2 := len_put (k := k) hhas
  rw [hg1, hents] at hn
  have hlen2 : (nd d i).ents.length ≤ 2147483648 := by
    have h1 := sumBy_ge mass1 (has_range hh).1 (has_range hh).2
    have := hC.small
    unfold smallD mass at this
    unfold mass1 at h1
    unfold mass1 at this
    omega
  refine ⟨h1, (drop_d w2 ⟨R.g i, 5, none⟩ (R1.ev i) _ name hn (by omega)).mono fun e w3 ⟨h4, h5⟩ => ?_⟩
  have hput : entHas (entPut (nd d i).ents name k) name = true := by rw [entHas_put hhas]; simp
  rw [show hasErr (entPut (nd d i).ents name k) name = 0 by unfold hasErr; rw [if_pos hput]] at h4
  rw [entDel_put (hC.inv.node i).rising hhas] at h5
  rw [← hg1] at h5
  obtain ⟨R3, hR3, hT3, _, _⟩ := h2.setDir hi1 h5
  have hd : upd (enterTo d i name k) i ((nd (enterTo d i name k) i).setEnts (nd d i).ents) = d := by
    show setE (setE d i (entPut (nd d i).ents name k)) i (nd d i).ents = d
    rw [setE_setE hh, setE_self hh]
  rw [hd] at hR3
  exact ⟨h4, R3, ⟨⟨lk, up, hC.re hR3⟩, hcl, hfit0, hmax⟩, (hR1.turnA hT1 h3).trans hT3⟩
noncomputable def movedTo (d : Nds) (room : Int) (f : Int) (name : ByteArray) (t : Int) (other : ByteArray) (k : Int) : Nds := if movedErr d room t other name = 0 then gc (moveTo d f name t other k) else d
theorem moved_any (h : IsDisk R w a d room) (f : Int) (name : ByteArray) (t : Int) (other : ByteArray) (k : Int) (h0 : lookErr d f name = 0) (hkk : lookOf d f name = k) (ht0 : folderErr d t = 0) (htop : (nd d k).kind = 2 → ¬ Above d k t) (hne : entGet (nd d t).ents other ≠ some k) (hos : other.size ≤ 4294967296) :
    Calls Tryz.prog 202 #[.pointer (some ⟨a, 0, none⟩), .int .i64 f, .string name, .int .i64 t, .string other] w fun e w' => e = .returned (.int .i64 (movedErr d room t other name)) ∧ DiskTo R w a (movedTo d room f name t other k) room w' := by
  obtain ⟨⟨lk, up, hC⟩, hcl, hfit, hmax⟩ := h
  have hlen := nd_ents_len hC.small
  have hl0 := look_any hC.rep f name (hlen f)
  rw [h0, hkk] at hl0
  obtain ⟨f0, hget⟩ := lookErr_zero h0
  rw [hkk] at hget
  obtain ⟨hf, hf2⟩ := folderErr_zero f0
  obtain ⟨ht, ht2⟩ := folderErr_zero ht0
  have hk : has d k := (hC.inv.tgt f _ (entGet_mem hget)).1
  have hul := used_le2 hC.inv hC.small
  have HL := Lib.hid (fun (w1 : World) (hk1 : Keeps NoB w w1) => (⟨(hC.rep.keepN hk1).l, (hC.rep.keepN hk1).look k, (hC.rep.keepN hk1).look t⟩ : _ ∧ _ ∧ _))
  unfold nodeV at HL
  rw [if_pos hk, if_pos ht] at HL
  have hgetT := Lib.hid (fun (w1 : World) (hk1 : Keeps NoB w w1) => get_any (fun _ => True) w1 ⟨R.g t, 5, none⟩ (R.ev t) (nd d t).ents other (((hC.rep.keepN hk1).node t ht).dir.any (fun _ _ => trivial)) (by have := hlen t; omega))
  have hput := Lib.hid (fun (w1 : World) (hk1 : Keeps NoB w w1) => put_d w1 ⟨R.g t, 5, none⟩ (R.ev t) (nd d t).ents other k ((hC.rep.keepN hk1).node t ht).dir (by have := hlen t; omega))
  have hset := Lib.hid (fun (w1 : World) (hk1 : Keeps NoB w w1) => set_d w1 ⟨R.g t, 5, none⟩ (R.ev t) (nd d t).ents other k ((hC.rep.keepN hk1).node t ht).dir (by have := hlen t; omega))
  unfold movedTo
  cases ho : entGet (nd d t).ents other with
  | some old =>
    have hh := entGet_has ho
    have e : movedErr d room t other name = 0 := if_pos hh
    rw [e, if_pos rfl]
    have M : MoveOk d f name t other k := MoveOk.mk' hC.inv hf2 ht2 hget hne (fun h => by rw [hh] at h; cases h) htop
    have hs1 := M.size_name
    have hu := M.used
    rw [if_pos hh] at hu
    have hwr : wrap64 ((used d : Int) - name.size) = (used d : Int) - name.size := IntWalk.wrap64_in _ (by omega)
    have HP := Lib.hid (fun (w1 w2 : World) (hk1 : Keeps NoB w w1) => moved_set (w := w1) (w1 := w2) M (hC.keep hk1 (fun _ _ h => h.elim)) hcl hfit hmax ho)
    have hhas : hasErr (nd d t).ents other = 0 := by unfold hasErr; rw [if_pos hh]
    rw [hhas] at hset
    rw [ho] at hgetT
    have HO := Lib.hid ho
    clear hC hcl hfit hmax e hul hlen M hs1 hu hhas hh hne htop hget ho h0 hkk ht0 f0 hf hf2 ht ht2 hk
    generalize (used d : Int) = us at *
    have hkd : ((nd d k).kind = 2) ∨ ((nd d k).kind ≠ 2) := Classical.em _
    rcases hkd with hkd | hkd
    case' inl => simp only [hkd, if_true] at HP; clear hkd
    case' inr => simp only [hkd, if_false] at HP; generalize (nd d k).kind = kd at *
    all_goals
      go_enter Tryz.func202, Tryz.ntmps202
      go_wp2_with (first | (go_at_call 193; refine hl0.mono ?_; rintro e w1 ⟨rfl, hk1⟩; obtain ⟨l1, l2, l3⟩ := HL.out w1 hk1; have q2 := fun (n : Nat) => (HL.out (w1.drewN n) (hk1.drewN n)).2.1; have q3 := fun (n : Nat) => (HL.out (w1.drewN n) (hk1.drewN n)).2.2) | (go_quiet (fail)) | (go_at_call 199; refine (hgetT.out _ (hk1.drewN _)).mono ?_; rintro e w2 ⟨rfl, hk2⟩; replace hk2 := (hk1.drewN _).trans hk2) | (go_at_call 249; refine (hset.out _ hk2).mono ?_; rintro e w3 ⟨rfl, ht3⟩; obtain ⟨R1, -, m1, m2, hdr⟩ := HP.out _ _ hk2 ht3; have HDr := Lib.hid hdr; clear hdr) | (go_at_call 190; refine HDr.out.mono ?_; rintro e w4 ⟨rfl, n1, n2, n3, n4, n5, hend⟩; have HEn := Lib.hid (hend.1 _ HO.out); clear hend) | (go_at_call 194; refine HEn.out.mono ?_; rintro e w5 ⟨rfl, hend⟩))
      go_ret
      exact ⟨rfl, hend.after hk2⟩
  | none =>
    have hh : entHas (nd d t).ents other = false := by rw [← entGet_isSome, ho]; rfl
    have hnh : ¬ (entHas (nd d t).ents other = true) := by rw [hh]; decide
    rw [ho] at hgetT
    have hE0 : ∀ (P : Int → Prop), P (if putErr (nd d t).ents other ≠ 0 then putErr (nd d t).ents other else if room - used d < (other.size : Int) - name.size then 20 else 0) → P (movedErr d room t other name) := fun P hP => by
      unfold movedErr; rw [if_neg hnh]; exact hP
    have hns : name.size ≤ 255 := okName_size ((hC.inv.node f).names _ (entGet_mem hget))
    have hwd : wrap64 ((other.size : Int) - name.size) = (other.size : Int) - name.size := IntWalk.wrap64_in _ (by omega)
    by_cases d3 : putErr (nd d t).ents other = 0
    case neg =>
      have e : movedErr d room t other name = putErr (nd d t).ents other := hE0 (fun x => x = putErr (nd d t).ents other) (if_pos d3)
      rw [e, if_neg d3]
      have HP := Lib.hid (fun (w1 w2 : World) (hk1 : Keeps NoB w w1) => enter_same (w := w1) (w1 := w2) (k := k) (hC.keep hk1 (fun _ _ h => h.elim)) hcl hfit hmax ht2 d3)
      clear hC hcl hfit hmax e hul hlen hh hnh hE0 hns hwd hne htop hget ho h0 hkk ht0 f0 hf hf2 ht ht2 hk hset
      generalize putErr (nd d t).ents other = pe at *
      go_enter Tryz.func202, Tryz.ntmps202
      go_wp2_with (first | (go_at_call 193; refine hl0.mono ?_; rintro e w1 ⟨rfl, hk1⟩; obtain ⟨l1, l2, l3⟩ := HL.out w1 hk1; have q2 := fun (n : Nat) => (HL.out (w1.drewN n) (hk1.drewN n)).2.1; have q3 := fun (n : Nat) => (HL.out (w1.drewN n) (hk1.drewN n)).2.2) | (go_quiet (fail)) | (go_at_call 199; refine (hgetT.out _ (hk1.drewN _)).mono ?_; rintro e w2 ⟨rfl, hk2⟩; replace hk2 := (hk1.drewN _).trans hk2) | (go_at_call 189; refine (hput.out _ hk2).mono ?_; rintro e w3 ⟨rfl, ht3⟩; have hend := HP.out _ _ hk2 ht3))
      go_ret
      exact ⟨rfl, hend.after hk2⟩
    case pos =>
    have hE1 : ∀ (P : Int → Prop), P (if room - used d < (other.size : Int) - name.size then 20 else 0) → P (movedErr d room t other name) := fun P hP => hE0 P (by rw [if_neg (by simpa using d3)]; exact hP)
    rw [d3] at hput
    by_cases d4 : room - used d < (other.size : Int) - name.size
    · have e : movedErr d room t other name = 20 := hE1 (fun x => x = 20) (if_pos d4)
      rw [e, if_neg (by decide)]
      have HP := Lib.hid (fun (w1 w2 : World) (hk1 : Keeps NoB w w1) => moved_back (w := w1) (w1 := w2) (k := k) (n := (other.size : Int) - name.size) (hC.keep hk1 (fun _ _ h => h.elim)) hcl hfit hmax ht2 d3 d4 (by omega))
      clear hC hcl hfit hmax e hul hlen hh hnh hE0 hE1 hns hne htop hget ho h0 hkk ht0 f0 hf hf2 ht ht2 hk hset d3 d4
      go_enter Tryz.func202, Tryz.ntmps202
      go_wp2_with (first | (go_at_call 193; refine hl0.mono ?_; rintro e w1 ⟨rfl, hk1⟩; obtain ⟨l1, l2, l3⟩ := HL.out w1 hk1; have q2 := fun (n : Nat) => (HL.out (w1.drewN n) (hk1.drewN n)).2.1; have q3 := fun (n : Nat) => (HL.out (w1.drewN n) (hk1.drewN n)).2.2) | (go_quiet (fail)) | (go_at_call 199; refine (hgetT.out _ (hk1.drewN _)).mono ?_; rintro e w2 ⟨rfl, hk2⟩; replace hk2 := (hk1.drewN _).trans hk2) | (go_at_call 189; refine (hput.out _ hk2).mono ?_; rintro e w3 ⟨rfl, ht3⟩) | (go_at_call 164; refine (HP.out _ _ hk2 ht3).mono ?_; rintro e w4 ⟨rfl, hdr⟩) | (go_at_call 190; refine hdr.mono ?_; rintro e w5 ⟨rfl, hend⟩))
      go_ret
      exact ⟨rfl, hend.after hk2⟩
    · have e : movedErr d room t other name = 0 := hE1 (fun x => x = 0) (if_neg d4)
      rw [e, if_pos rfl]
      have M : MoveOk d f name t other k := MoveOk.mk' hC.inv hf2 ht2 hget hne (fun _ => d3) htop
      have hs1 := M.size_name
      have hs2 := M.size_other
      have hwr : wrap64 ((used d : Int) + other.size - name.size) = (used d : Int) + other.size - name.size := IntWalk.wrap64_in _ (by omega)
      have hwa : wrap64 ((used d : Int) + ((other.size : Int) - name.size) + name.size) = (used d : Int) + other.size := by rw [IntWalk.wrap64_in _ (by omega)]; omega
      have HP := Lib.hid (fun (w1 w2 : World) (hk1 : Keeps NoB w w1) => moved_put (w := w1) (w1 := w2) M (hC.keep hk1 (fun _ _ h => h.elim)) hcl hfit hmax ho (by omega))
      have HO := Lib.hid ho
      clear hC hcl hfit hmax e hul hlen hh hnh hE0 hE1 hns hne htop hget ho h0 hkk ht0 f0 hf hf2 ht ht2 hk hset d3 d4 M hs1 hs2
      generalize (used d : Int) = us at *
      have hkd : ((nd d k).kind = 2) ∨ ((nd d k).kind ≠ 2) := Classical.em _
      rcases hkd with hkd | hkd
      case' inl => simp only [hkd, if_true] at HP; clear hkd
      case' inr => simp only [hkd, if_false] at HP; generalize (nd d k).kind = kd at *
      all_goals
        go_enter Tryz.func202, Tryz.ntmps202
        go_wp2_with (first | (go_at_call 193; refine hl0.mono ?_; rintro e w1 ⟨rfl, hk1⟩; obtain ⟨l1, l2, l3⟩ := HL.out w1 hk1; have q2 := fun (n : Nat) => (HL.out (w1.drewN n) (hk1.drewN n)).2.1; have q3 := fun (n : Nat) => (HL.out (w1.drewN n) (hk1.drewN n)).2.2) | (go_quiet (fail)) | (go_at_call 199; refine (hgetT.out _ (hk1.drewN _)).mono ?_; rintro e w2 ⟨rfl, hk2⟩; replace hk2 := (hk1.drewN _).trans hk2) | (go_at_call 189; refine (hput.out _ hk2).mono ?_; rintro e w3 ⟨rfl, ht3⟩) | (go_at_call 164; refine (HP.out _ _ hk2 ht3).mono ?_; rintro e w4 ⟨rfl, u1, u2, b, W, hW, m1, m2, hdr⟩; have HDr := Lib.hid hdr; clear hdr; subst hW) | (go_at_call 190; refine HDr.out.mono ?_; rintro e w5 ⟨rfl, n1, n2, n3, n4, n5, hend⟩; have HEn := Lib.hid (hend.2 HO.out); clear hend))
        go_ret
        exact ⟨rfl, HEn.out.after hk2⟩
end
end Go.Proofs.YtijbhmledmnifaaGreatDoor

/-
  Contracts of package disk, the fourteenth part: Move.
-/
namespace Go.Proofs.YtijbhmledmnifaaGreatDoor
open Go.RowKit
set_option maxRecDepth 100000
set_option maxHeartbeats 1000000
def moveErr2 (d : Nds) (room : Int) (t : Int) (other name : ByteArray) (k : Int) : Int :=
  match entGet (nd d t).ents other with
  | some old => if old = k then 0 else givesErr d k old
  | none => movedErr d room t other name
open Classical in
noncomputable def moveErr (d : Nds) (room : Int) (f : Int) (name : ByteArray) (t : Int) (other : ByteArray) : Int :=
  if lookErr d f name ≠ 0 then lookErr d f name else if folderErr d t ≠ 0 then folderErr d t
  else if (nd d (lookOf d f name)).kind = 2 ∧ Above d (lookOf d f name) t then 23 else moveErr2 d room t other name (lookOf d f name)
noncomputable def moveD (d : Nds) (room : Int) (f : Int) (name : ByteArray) (t : Int) (other : ByteArray) : Nds :=
  if moveErr d room f name t other = 0 ∧ entGet (nd d t).ents other ≠ some (lookOf d f name) then gc (moveTo d f name t other (lookOf d f name)) else d
section
variable {R : RD} {w : World} {a : Nat} {d : Nds} {room : Int}
theorem moveErr_look {f t : Int} {name other : ByteArray} (h : lookErr d f name ≠ 0) : moveErr d room f name t other = lookErr d f name := by unfold moveErr; rw [if_pos h]
theorem moveErr_fold {f t : Int} {name other : ByteArray} (h : lookErr d f name = 0) (h2 : folderErr d t ≠ 0) : moveErr d room f name t other = folderErr d t := by
  unfold moveErr; rw [if_neg (by simpa using h), if_pos h2]
theorem moveErr_busy {f t : Int} {name other : ByteArray} (h : lookErr d f name = 0) (h2 : folderErr d t = 0) (h3 : (nd d (lookOf d f name)).kind = 2 ∧ Above d (lookOf d f name) t) : moveErr d room f name t other = 23 := by
  unfold moveErr; rw [if_neg (by simpa using h), if_neg (by simpa using h2), if_pos h3]
theorem moveErr_two {f t : Int} {name other : ByteArray} (h : lookErr d f name = 0) (h2 : folderErr d t = 0) (h3 : ¬ ((nd d (lookOf d f name)).kind = 2 ∧ Above d (lookOf d f name) t)) : moveErr d room f name t other = moveErr2 d room t other name (lookOf d f name) := by
  unfold moveErr; rw [if_neg (by simpa using h), if_neg (by simpa using h2), if_neg h3]
theorem moveD_err {f t : Int} {name other : ByteArray} (h : moveErr d room f name t other ≠ 0) : moveD d room f name t other = d := by unfold moveD; rw [if_neg (fun e => h e.1)]
theorem moveD_any (h : IsDisk R w a d room) (f : Int) (name : ByteArray) (t : Int) (other : ByteArray) (hos : other.size ≤ 4294967296) :
    Calls Tryz.prog 134 #[.pointer (some ⟨a, 0, none⟩), .int .i64 f, .string name, .int .i64 t, .string other] w fun e w' => e = .returned (.int .i64 (moveErr d room f name t other)) ∧ DiskTo R w a (moveD d room f name t other) room w' := by
  have H := Lib.hid h
  obtain ⟨⟨lk, up, hC⟩, hcl, hfit, hmax⟩ := h
  have hlen := nd_ents_len hC.small
  have hl0 := look_any hC.rep f name (hlen f)
  by_cases c0 : lookErr d f name = 0
  case neg =>
    rw [moveD_err (by rw [moveErr_look c0]; exact c0), moveErr_look c0]
    clear hC hcl hfit hmax
    generalize lookErr d f name = er at *
    generalize lookOf d f name = k at *
    go_enter Tryz.func134, Tryz.ntmps134
    go_wp2_with (go_at_call 193; refine hl0.mono ?_; rintro e w1 ⟨rfl, hk⟩)
    go_ret
    exact ⟨rfl, H.out.same hk⟩
  case pos =>
  obtain ⟨f0, hget⟩ := lookErr_zero c0
  obtain ⟨hf, hf2⟩ := folderErr_zero f0
  have hk := (hC.inv.tgt f _ (entGet_mem hget)).1
  have hk1 := (hC.inv.tgt f _ (entGet_mem hget)).2
  have hF := Lib.hid (fun (w1 : World) (hk1 : Keeps NoB w w1) => folder_any (hC.rep.keepN hk1) t)
  rw [c0] at hl0
  by_cases c1 : folderErr d t = 0
  case neg =>
    rw [moveD_err (by rw [moveErr_fold c0 c1]; exact c1), moveErr_fold c0 c1]
    have hp : ptrIf R (folderErr d t) t = .pointer none := if_neg c1
    rw [hp] at hF
    clear hC hcl hfit hmax
    generalize folderErr d t = er at *
    generalize lookOf d f name = k at *
    go_enter Tryz.func134, Tryz.ntmps134
    go_wp2_with (first | (go_at_call 193; refine hl0.mono ?_; rintro e w1 ⟨rfl, hk⟩) | (go_at_call 144; refine (hF.out _ hk).mono ?_; rintro e w2 ⟨rfl, rfl⟩))
    go_ret
    exact ⟨rfl, H.out.same hk⟩
  case pos =>
  obtain ⟨ht, ht2⟩ := folderErr_zero c1
  rw [c1] at hF
  have hp : ptrIf R 0 t = .pointer (some ⟨R.g t, 0, none⟩) := rfl
  rw [hp] at hF
  have HL := Lib.hid (fun (w1 : World) (hk1 : Keeps NoB w w1) => (⟨(hC.rep.keepN hk1).l, (hC.rep.keepN hk1).look (lookOf d f name), ((hC.rep.keepN hk1).node _ hk).kind⟩ : _ ∧ _ ∧ _))
  unfold nodeV at HL
  rw [if_pos hk] at HL
  have hG := Lib.hid (fun (w1 : World) (hk1 : Keeps NoB w w1) => get_any (fun _ => True) w1 ⟨R.g t, 5, none⟩ (R.ev t) (nd d t).ents other (((hC.rep.keepN hk1).node t ht).dir.any (fun _ _ => trivial)) (by have := hlen t; omega))
  have hB := Lib.hid (fun (w1 : World) (hkx : Keeps NoB w w1) => below_any (hC.keep hkx (fun _ _ h => h.elim)) rfl t (lookOf d f name) ht2 hk hk1)
  by_cases c2 : (nd d (lookOf d f name)).kind = 2 ∧ Above d (lookOf d f name) t
  · rw [moveD_err (by rw [moveErr_busy c0 c1 c2]; decide), moveErr_busy c0 c1 c2]
    have hB2 : Hid (∀ (w1 : World), Keeps NoB w w1 → Calls Tryz.prog 200 #[.pointer (some ⟨a, 0, none⟩), .int .i64 t, .int .i64 (lookOf d f name)] w1 fun e w' => e = .returned (.bool true) ∧ w1 = w') := fun w1 hkx => by
      refine (hB.out w1 hkx).mono ?_
      rintro e w' ⟨b, rfl, hb, rfl⟩
      rw [hb.2 c2.2]
      exact ⟨rfl, rfl⟩
    rw [c2.1] at HL
    clear hC hcl hfit hmax hB hget c0 f0 hk hk1 c2
    generalize lookOf d f name = k at *
    generalize entGet (nd d t).ents other = og at *
    cases og
    all_goals
      go_enter Tryz.func134, Tryz.ntmps134
      go_wp2_with (first | (go_at_call 193; refine hl0.mono ?_; rintro e w1 ⟨rfl, hk1⟩; obtain ⟨l1, l2, l3⟩ := HL.out w1 hk1) | (go_at_call 144; refine (hF.out _ hk1).mono ?_; rintro e w2 ⟨rfl, rfl⟩) | (go_at_call 199; refine (hG.out _ hk1).mono ?_; rintro e w2 ⟨rfl, hk2⟩; replace hk2 := hk1.trans hk2; obtain ⟨m1, m2, m3⟩ := HL.out w2 hk2) | (go_at_call 200; refine (hB2.out _ hk2).mono ?_; rintro e w3 ⟨rfl, rfl⟩))
      go_ret
      exact ⟨rfl, H.out.same hk2⟩
  · have hB2 : Hid ((nd d (lookOf d f name)).kind = 2 → ∀ (w1 : World), Keeps NoB w w1 → Calls Tryz.prog 200 #[.pointer (some ⟨a, 0, none⟩), .int .i64 t, .int .i64 (lookOf d f name)] w1 fun e w' => e = .returned (.bool false) ∧ w1 = w') := fun h2 w1 hkx => by
      refine (hB.out w1 hkx).mono ?_
      rintro e w' ⟨b, rfl, hb, rfl⟩
      cases b with
      | false => exact ⟨rfl, rfl⟩
      | true => exact absurd ⟨h2, hb.1 rfl⟩ c2
    have e2 := moveErr_two (room := room) (other := other) c0 c1 c2
    have htop : (nd d (lookOf d f name)).kind = 2 → ¬ Above d (lookOf d f name) t := fun h2 ha => c2 ⟨h2, ha⟩
    have hLO := Lib.hid (fun (w1 : World) (hk1 : Keeps NoB w w1) (o : Int) => (hC.rep.keepN hk1).look o)
    have hGI := Lib.hid (fun (w1 : World) (hk1 : Keeps NoB w w1) (o : Int) (ho : has d o) => gives_any (hC.rep.keepN hk1) hC.inv (lookOf d f name) o hk ho)
    have hMV := Lib.hid (fun (w1 : World) (hk1 : Keeps NoB w w1) (hne : entGet (nd d t).ents other ≠ some (lookOf d f name)) => moved_any (H.out.keepN hk1) f name t other (lookOf d f name) c0 rfl c1 htop hne hos)
    have hD : moveD d room f name t other = if moveErr2 d room t other name (lookOf d f name) = 0 ∧ entGet (nd d t).ents other ≠ some (lookOf d f name) then gc (moveTo d f name t other (lookOf d f name)) else d := by unfold moveD; rw [e2]
    rw [hD, e2]
    have hkd : ((nd d (lookOf d f name)).kind = 2) ∨ ((nd d (lookOf d f name)).kind == 2) = false := by
      by_cases h : (nd d (lookOf d f name)).kind = 2
      · exact .inl h
      · exact .inr (by simpa using h)
    cases ho : entGet (nd d t).ents other with
    | none =>
      rw [ho] at hG hMV
      replace hMV := Lib.hid (fun (w1 : World) (hk1 : Keeps NoB w w1) => hMV.out w1 hk1 (fun h => by cases h))
      unfold movedTo at hMV
      have hE : moveErr2 d room t other name (lookOf d f name) = movedErr d room t other name := by unfold moveErr2; rw [ho]
      simp only [hE, ne_eq, reduceCtorEq, not_false_eq_true, and_true]
      clear hE
      clear hC hcl hfit hmax hB hget c0 f0 hk hk1 c2 hD e2 htop hGI hLO hf2 ht2 ho hf hlen
      generalize movedErr d room t other name = me at *
      generalize (if me = 0 then gc (moveTo d f name t other (lookOf d f name)) else d) = d2 at *
      generalize lookOf d f name = k at *
      rcases hkd with hkd | hkd
      case' inl => rw [hkd] at HL; replace hB2 := Lib.hid (hB2.out hkd); clear hkd
      case' inr => clear hB2; generalize (nd d k).kind = kd at *
      all_goals
        go_enter Tryz.func134, Tryz.ntmps134
        go_wp2_with (first | (go_at_call 193; refine hl0.mono ?_; rintro e w1 ⟨rfl, hk1⟩; obtain ⟨l1, l2, l3⟩ := HL.out w1 hk1) | (go_at_call 144; refine (hF.out _ hk1).mono ?_; rintro e w2 ⟨rfl, rfl⟩) | (go_at_call 199; refine (hG.out _ hk1).mono ?_; rintro e w2 ⟨rfl, hk2⟩; replace hk2 := hk1.trans hk2; obtain ⟨m1, m2, m3⟩ := HL.out w2 hk2) | (go_at_call 200; refine (hB2.out _ hk2).mono ?_; rintro e w3 ⟨rfl, rfl⟩) | (go_at_call 202; refine (hMV.out _ hk2).mono ?_; rintro e w3 ⟨rfl, hend⟩))
        go_ret
        exact ⟨rfl, hend.after hk2⟩
    | some old =>
      have hold := (hC.inv.tgt t _ (entGet_mem ho)).1
      rw [ho] at hG hMV
      by_cases c3 : old = lookOf d f name
      · subst c3
        have hE : moveErr2 d room t other name (lookOf d f name) = 0 := by unfold moveErr2; rw [ho]; exact if_pos rfl
        simp only [hE, ne_eq, not_true_eq_false, and_false, if_false]
        clear hE
        clear hC hcl hfit hmax hB hget c0 f0 hk hk1 c2 hD e2 htop hGI hLO hf2 ht2 ho hf hlen hMV hold
        generalize lookOf d f name = k at *
        rcases hkd with hkd | hkd
        case' inl => rw [hkd] at HL; replace hB2 := Lib.hid (hB2.out hkd); clear hkd
        case' inr => clear hB2; generalize (nd d k).kind = kd at *
        all_goals
          go_enter Tryz.func134, Tryz.ntmps134
          go_wp2_with (first | (go_at_call 193; refine hl0.mono ?_; rintro e w1 ⟨rfl, hk1⟩; obtain ⟨l1, l2, l3⟩ := HL.out w1 hk1) | (go_at_call 144; refine (hF.out _ hk1).mono ?_; rintro e w2 ⟨rfl, rfl⟩) | (go_at_call 199; refine (hG.out _ hk1).mono ?_; rintro e w2 ⟨rfl, hk2⟩; replace hk2 := hk1.trans hk2; obtain ⟨m1, m2, m3⟩ := HL.out w2 hk2) | (go_at_call 200; refine (hB2.out _ hk2).mono ?_; rintro e w3 ⟨rfl, rfl⟩))
          go_ret
          exact ⟨rfl, H.out.same hk2⟩
      · have hE : moveErr2 d room t other name (lookOf d f name) = givesErr d (lookOf d f name) old := by unfold moveErr2; rw [ho]; exact if_neg c3
        simp only [hE]
        clear hE
        have hb3 : (old == lookOf d f name) = false := by simpa using c3
        have hLO2 := Lib.hid (fun (w1 : World) (hk1 : Keeps NoB w w1) => hLO.out w1 hk1 old)
        unfold nodeV at hLO2
        rw [if_pos hold] at hLO2
        have hGI2 := Lib.hid (fun (w1 : World) (hk1 : Keeps NoB w w1) => hGI.out w1 hk1 old hold)
        replace hMV := Lib.hid (fun (w1 : World) (hk1 : Keeps NoB w w1) => hMV.out w1 hk1 (fun h => c3 (by cases h; rfl)))
        have hme : movedErr d room t other name = 0 := if_pos (entGet_has ho)
        unfold movedTo at hMV
        rw [hme, if_pos rfl] at hMV
        have hne : (some old ≠ some (lookOf d f name)) = True := by simp [c3]
        simp only [hne, and_true]
        clear hC hcl hfit hmax hB hget c0 f0 hk hk1 c2 hD e2 htop hGI hLO hf2 ht2 ho hf hlen hold c3 hme hne
        by_cases c4 : givesErr d (lookOf d f name) old = 0
        case neg =>
          rw [if_neg c4]
          clear hMV
          generalize givesErr d (lookOf d f name) old = ge at *
          generalize lookOf d f name = k at *
          rcases hkd with hkd | hkd
          case' inl => rw [hkd] at HL; replace hB2 := Lib.hid (hB2.out hkd); clear hkd
          case' inr => clear hB2; generalize (nd d k).kind = kd at *
          all_goals
            go_enter Tryz.func134, Tryz.ntmps134
            go_wp2_with (first | (go_at_call 193; refine hl0.mono ?_; rintro e w1 ⟨rfl, hk1⟩; obtain ⟨l1, l2, l3⟩ := HL.out w1 hk1) | (go_at_call 144; refine (hF.out _ hk1).mono ?_; rintro e w2 ⟨rfl, rfl⟩) | (go_at_call 199; refine (hG.out _ hk1).mono ?_; rintro e w2 ⟨rfl, hk2⟩; replace hk2 := hk1.trans hk2; obtain ⟨m1, m2, m3⟩ := HL.out w2 hk2; have m4 := hLO2.out w2 hk2) | (go_at_call 200; refine (hB2.out _ hk2).mono ?_; rintro e w3 ⟨rfl, rfl⟩) | (go_at_call 201; refine (hGI2.out _ hk2).mono ?_; rintro e w3 ⟨rfl, rfl⟩))
            go_ret
            exact ⟨rfl, H.out.same hk2⟩
        case pos =>
          rw [if_pos c4, c4]
          rw [c4] at hGI2
          generalize gc (moveTo d f name t other (lookOf d f name)) = d2 at *
          generalize lookOf d f name = k at *
          rcases hkd with hkd | hkd
          case' inl => rw [hkd] at HL; replace hB2 := Lib.hid (hB2.out hkd); clear hkd
          case' inr => clear hB2; generalize (nd d k).kind = kd at *
          all_goals
            go_enter Tryz.func134, Tryz.ntmps134
            go_wp2_with (first | (go_at_call 193; refine hl0.mono ?_; rintro e w1 ⟨rfl, hk1⟩; obtain ⟨l1, l2, l3⟩ := HL.out w1 hk1) | (go_at_call 144; refine (hF.out _ hk1).mono ?_; rintro e w2 ⟨rfl, rfl⟩) | (go_at_call 199; refine (hG.out _ hk1).mono ?_; rintro e w2 ⟨rfl, hk2⟩; replace hk2 := hk1.trans hk2; obtain ⟨m1, m2, m3⟩ := HL.out w2 hk2; have m4 := hLO2.out w2 hk2) | (go_at_call 200; refine (hB2.out _ hk2).mono ?_; rintro e w3 ⟨rfl, rfl⟩) | (go_at_call 201; refine (hGI2.out _ hk2).mono ?_; rintro e w3 ⟨rfl, rfl⟩) | (go_at_call 202; refine (hMV.out _ hk2).mono ?_; rintro e w3 ⟨rfl, hend⟩))
            go_ret
            exact ⟨rfl, hend.after hk2⟩
end
end Go.Proofs.YtijbhmledmnifaaGreatDoor

/-
  How the reference's disk lies in memory: rows of nodes, each with its slice of entries.
-/
set_option maxRecDepth 100000
namespace Go.Proofs.YtijbhmledmnifaaGreatDoor
open Go.RowKit
structure RRow where
  kind : Int
  mode : Int
  holds : Int
  data : ByteArray
  p : Option Addr
  n : Nat
  c : Nat
def encRow : Enc RRow where
  enc := fun r => [.int .i64 r.kind, .int .i64 r.mode, .int .i64 r.holds, .string r.data, .slice r.p r.n r.c]
  k := 5
  pos := by decide
  len := fun _ => rfl
  one := fun x v hv => by simp at hv; rcases hv with rfl | rfl | rfl | rfl | rfl <;> rfl
structure RowIs (S : Nat → Prop) (w : World) (r : RRow) (x : Nd) : Prop where
  kind : r.kind = x.kind
  mode : r.mode = x.mode
  holds : r.holds = x.holds
  data : r.data = x.data
  n : r.n = x.ents.length
  ents : SlAt encEnt S w r.p r.c x.ents
structure RefAt (S : Nat → Prop) (w : World) (p : Option Addr) (c : Nat) (d : Nds) : Prop where
  rows : ∃ rows : List RRow, rows.length = d.length ∧ SlAt encRow S w p c rows ∧ ∀ (i : Nat) (r : RRow), rows[i]? = some r → RowIs S w r (nd d i)
def refV (p : Option Addr) (c : Nat) (d : Nds) (room : Int) : Value := .agg #[.slice p d.length c, .int .i64 room]
def IsRef (S : Nat → Prop) (w : World) (v : Value) (d : Nds) (room : Int) : Prop := ∃ p c, v = refV p c d room ∧ RefAt S w p c d
section
variable {S : Nat → Prop} {w w' : World} {p : Option Addr} {c : Nat} {d : Nds} {room : Int} {v : Value}
theorem RowIs.keepS {S' F : Nat → Prop} {r : RRow} {x : Nd} (h : RowIs S w r x) (k : Keeps F w w') (hF : ∀ g, S g → g < w.heap.size → ¬ F g) (hS : ∀ g, S g → g < w.heap.size → S' g) : RowIs S' w' r x :=
  ⟨h.kind, h.mode, h.holds, h.data, h.n, h.ents.keepS k hF hS⟩
theorem RefAt.keepS {S' F : Nat → Prop} (h : RefAt S w p c d) (k : Keeps F w w') (hF : ∀ g, S g → g < w.heap.size → ¬ F g) (hS : ∀ g, S g → g < w.heap.size → S' g) : RefAt S' w' p c d := by
  obtain ⟨rows, h1, h2, h3⟩ := h.rows
  exact ⟨rows, h1, h2.keepS k hF hS, fun i r hi => (h3 i r hi).keepS k hF hS⟩
theorem RefAt.keepN (h : RefAt S w p c d) (k : Keeps NoB w w') : RefAt S w' p c d := h.keepS k (fun _ _ _ h => h) (fun _ h _ => h)
theorem IsRef.keepS {S' F : Nat → Prop} (h : IsRef S w v d room) (k : Keeps F w w') (hF : ∀ g, S g → g < w.heap.size → ¬ F g) (hS : ∀ g, S g → g < w.heap.size → S' g) : IsRef S' w' v d room := by
  obtain ⟨p, c, rfl, h⟩ := h
  exact ⟨p, c, rfl, h.keepS k hF hS⟩
theorem IsRef.keepN (h : IsRef S w v d room) (k : Keeps NoB w w') : IsRef S w' v d room := h.keepS k (fun _ _ _ h => h) (fun _ h _ => h)
theorem RefAt.row (h : RefAt S w p c d) {i : Nat} (hi : i < d.length) :
    ∃ g off q n m, p = some ⟨g, off, none⟩ ∧ S g ∧ g < w.heap.size ∧ w.cell? ⟨g, off + i * 5, none⟩ = some (.int .i64 (nd d i).kind) ∧ w.cell? ⟨g, off + i * 5 + 1, none⟩ = some (.int .i64 (nd d i).mode) ∧
      w.cell? ⟨g, off + i * 5 + 2, none⟩ = some (.int .i64 (nd d i).holds) ∧ w.cell? ⟨g, off + i * 5 + 3, none⟩ = some (.string (nd d i).data) ∧ w.cell? ⟨g, off + i * 5 + 4, none⟩ = some (.slice q n m) ∧
      n = (nd d i).ents.length ∧ SlAt encEnt S w q m (nd d i).ents := by
  obtain ⟨rows, h1, h2, h3⟩ := h.rows
  obtain ⟨r, hr⟩ : ∃ r, rows[i]? = some r := ⟨_, List.getElem?_eq_getElem (by omega)⟩
  have hR := h3 i r hr
  obtain ⟨g, off, hp, hS, hg, hc⟩ := h2.at hr
  refine ⟨g, off, r.p, r.n, r.c, hp, hS, hg, ?_, ?_, ?_, ?_, ?_, hR.n, hR.ents⟩
  · have := hc 0 _ rfl; rw [hR.kind] at this; exact this
  · have := hc 1 _ rfl; rw [hR.mode, ← Nat.add_assoc] at this; exact this
  · have := hc 2 _ rfl; rw [hR.holds, ← Nat.add_assoc] at this; exact this
  · have := hc 3 _ rfl; rw [hR.data, ← Nat.add_assoc] at this; exact this
  · have := hc 4 _ rfl; rw [← Nat.add_assoc] at this; exact this
theorem RefAt.cap (h : RefAt S w p c d) : d.length ≤ c := by
  obtain ⟨rows, h1, h2, h3⟩ := h.rows
  have := h2.cap
  omega
theorem RefAt.max (h : RefAt S w p c d) : c ≤ maxLen := by
  obtain ⟨rows, h1, h2, h3⟩ := h.rows
  exact h2.max
end
end Go.Proofs.YtijbhmledmnifaaGreatDoor

/-
  Contracts of the reference for layer 4, the first part: Has, Links, Used, Count.
-/
namespace Go.Proofs.YtijbhmledmnifaaGreatDoor
open Go.RowKit
set_option maxRecDepth 100000
set_option maxHeartbeats 2000000
section
variable {S : Nat → Prop} {w : World} {p : Option Addr} {c : Nat} {d : Nds} {room : Int}
theorem r4has_any (h : RefAt S w p c d) (hz : nd d 0 = Nd.gone) (i : Int) :
    Calls Tryz.prog 68 #[refV p c d room, .int .i64 i] w fun e w' => e = .returned (.bool (decide (has d i))) ∧ Keeps NoB w w' := by
  unfold refV
  by_cases h1 : i < 1
  · have hno : ¬ has d i := fun hh => by
      have := has_range hh
      have h0 : i = 0 := by omega
      subst h0
      unfold has at hh; rw [hz] at hh; exact hh rfl
    rw [decide_eq_false hno]
    go_enter Tryz.func68, Tryz.ntmps68
    go_wp2
    go_ret
    exact ⟨rfl, (Keeps.refl _ _).alloc _⟩
  by_cases h2 : (d.length : Int) ≤ i
  · have hno : ¬ has d i := fun hh => by have := has_range hh; omega
    rw [decide_eq_false hno]
    go_enter Tryz.func68, Tryz.ntmps68
    go_wp2
    go_ret
    exact ⟨rfl, (Keeps.refl _ _).alloc _⟩
  obtain ⟨k, rfl⟩ : ∃ k : Nat, i = (k : Int) := ⟨i.toNat, by omega⟩
  have hk : k < d.length := by omega
  obtain ⟨g, off, q, n, m, rfl, hS, hg, c0, c1, c2, c3, c4, hn, hsl⟩ := h.row hk
  have hcap := h.cap
  have hmax := h.max
  unfold maxLen at hmax
  have e : decide (has d (k : Int)) = ((nd d k).kind != 0) := by
    unfold has
    by_cases hh : (nd d k).kind = 0
    · simp [hh]
    · simp [hh]
  rw [e]
  clear h e c1 c2 c3 c4 hsl hn hz
  generalize (nd d k).kind = kd at *
  go_enter Tryz.func68, Tryz.ntmps68
  go_wp2
  go_ret
  exact ⟨rfl, (Keeps.refl _ _).alloc _⟩
theorem sumBy_take (f : Nd → Nat) (d : Nds) (k : Nat) (hk : k < d.length) : sumBy f (d.take (k + 1)) = sumBy f (d.take k) + f (nd d k) := by
  have hg : d[k]? = some (nd d k) := by have := nd_get (d := d) (i := k) (by omega) (by omega); simpa using this
  rw [List.take_add_one, hg]
  simp only [Option.toList, sumBy_append]
theorem sumBy_le (f : Nd → Nat) (d : Nds) (k : Nat) : sumBy f (d.take k) ≤ sumBy f d := by
  have : sumBy f d = sumBy f (d.take k) + sumBy f (d.drop k) := by
    unfold sumBy
    rw [← List.sum_append_nat, ← List.map_append, List.take_append_drop]
  omega
theorem nms_take (es : List Ent) (i : Int) (k : Nat) (x : Ent) (h : es[k]? = some x) : nms i (es.take (k + 1)) = nms i (es.take k) + if x.2 = i then 1 else 0 := by
  unfold nms
  rw [List.take_add_one, h]
  simp [List.countP_append, List.countP_cons]
theorem entSize_part (es : List Ent) (k : Nat) : entSize (es.take k) ≤ entSize es := by
  have : entSize es = entSize (es.take k) + entSize (es.drop k) := by
    unfold entSize
    rw [← List.sum_append_nat, ← List.map_append, List.take_append_drop]
  omega
theorem nms_le (es : List Ent) (i : Int) : nms i es ≤ es.length := List.countP_le_length
theorem cnt_le_mass (d : Nds) (i : Int) : cnt d i ≤ mass d := by
  induction d with
  | nil => simp [cnt, sumBy]
  | cons a d ih =>
    simp only [cnt, mass, sumBy, List.map_cons, List.sum_cons] at ih ⊢
    have : namesOf i a ≤ mass1 a := by
      unfold namesOf mass1
      have := List.countP_le_length (p := fun e : Ent => decide (e.2 = i)) (l := a.ents)
      omega
    omega
theorem cnt_one (hz : nd d 0 = Nd.gone) (h2 : 1 ≤ d.length) (f : Nd → Nat) (hf : f Nd.gone = 0) : sumBy f (d.take 1) = 0 := by
  have := sumBy_take f d 0 (by omega)
  rw [show sumBy f (d.take 0) = 0 from rfl] at this
  rw [this]
  show 0 + f (nd d 0) = 0
  rw [hz, hf]
theorem r4links_any (h : RefAt S w p c d) (hz : nd d 0 = Nd.gone) (h2 : 1 ≤ d.length) (hs : smallD d) (i : Int) :
    Calls Tryz.prog 69 #[refV p c d room, .int .i64 i] w fun e w' => e = .returned (.int .i64 (links d i)) ∧ Keeps NoB w w' := by
  have hcap := h.cap
  have hmax := h.max
  unfold maxLen at hmax
  have hs0 := hs
  unfold smallD at hs
  have hcm := cnt_le_mass d i
  have hlen := mass_ge d
  have h0 := cnt_one hz h2 (namesOf i) rfl
  unfold refV
  obtain ⟨n0, hl, hn0⟩ : ∃ n0 : Nat, links d i = n0 + cnt d i ∧ (((i == 1) = true ∧ n0 = 1) ∨ ((i == 1) = false ∧ n0 = 0)) := by
    unfold links
    by_cases h1 : i = 1
    · exact ⟨1, by rw [if_pos h1], .inl ⟨by simpa using h1, rfl⟩⟩
    · exact ⟨0, by rw [if_neg h1], .inr ⟨by simpa using h1, rfl⟩⟩
  rw [hl]
  have hn1 : n0 ≤ 1 := by omega
  have H0 := Lib.hid h0
  have Hcm := Lib.hid hcm
  have Hlen := Lib.hid hlen
  clear hl hz h0 hcm hlen
  have key : ∀ (k : Nat), k < d.length → ∃ g off q n m, p = some ⟨g, off, none⟩ ∧ g < w.heap.size ∧ w.cell? ⟨g, off + k * 5 + 4, none⟩ = some (.slice q n m) ∧ n = (nd d k).ents.length ∧ SlAt encEnt S w q m (nd d k).ents ∧
      sumBy (namesOf i) (d.take (k + 1)) = sumBy (namesOf i) (d.take k) + nms i (nd d k).ents ∧ sumBy (namesOf i) (d.take (k + 1)) ≤ cnt d i ∧ (nd d k).ents.length < 4294967295 := fun k hk => by
    obtain ⟨g, off, q, n, m, hp, _, hg, _, _, _, _, c4, hn, hsl⟩ := h.row hk
    exact ⟨g, off, q, n, m, hp, hg, c4, hn, hsl, sumBy_take _ _ _ hk, sumBy_le _ _ _, nd_ents_len hs0 k⟩
  have Hk := Lib.hid key
  clear key h hs0
  rcases hn0 with ⟨h1, hn0⟩ | ⟨h1, hn0⟩
  all_goals
    go_enter Tryz.func69, Tryz.ntmps69
    have Hn0 := Lib.hid hn0
    clear hn0
    go_wp2
    clear h1
    go_loop [5, 6] (fun s x => ∃ k : Nat, 1 ≤ k ∧ k ≤ d.length ∧ x = .int .i64 k ∧ s = .int .i64 ((n0 + sumBy (namesOf i) (d.take k) : Nat) : Int)) (fun _ x => d.length - (intOf x).toNat)
    case atStart => exact ⟨1, Nat.le_refl _, h2, rfl, by rw [H0.out, Hn0.out]; rfl⟩
    case round =>
      obtain ⟨k, hk1, hk2, rfl, rfl⟩ := hrel
      by_cases hlt : k < d.length
      · obtain ⟨g, off, q, n, m, rfl, hg, c4, hn, hsl, hs1, hs2, hel⟩ := Hk.out k hlt
        have Hs1 := Lib.hid hs1
        have Hn := Lib.hid hn
        have hb1 : sumBy (namesOf i) (d.take (k + 1)) ≤ 2147483648 := by have := Hcm.out; omega
        rw [hs1] at hb1
        clear hs1 hs2
        subst hn
        clear Hn Hk
        generalize (nd d k).ents = es at *
        generalize sumBy (namesOf i) (d.take k) = A at *
        go_wp2
        go_loop [5, 7] (fun s x => ∃ t : Nat, t ≤ es.length ∧ x = .int .i64 t ∧ s = .int .i64 ((n0 + (A + nms i (es.take t)) : Nat) : Int)) (fun _ x => es.length - (intOf x).toNat)
        case atStart => exact ⟨0, Nat.zero_le _, rfl, by simp [nms]⟩
        case round =>
          obtain ⟨t, ht, rfl, rfl⟩ := hrel
          by_cases hlt2 : t < es.length
          · obtain ⟨x, hx⟩ : ∃ x, es[t]? = some x := ⟨_, List.getElem?_eq_getElem hlt2⟩
            obtain ⟨g2, off2, rfl, _, hg2, e0, e1⟩ := hsl.ent hx
            have Hx := Lib.hid (nms_take es i t x hx)
            have hle := nms_le (es.take t) i
            have hcap2 := hsl.cap
            have hmax2 := hsl.max
            unfold maxLen at hmax2
            rw [List.length_take] at hle
            clear hx
            by_cases he : x.2 = i
            · have hb : (x.2 == i) = true := by simpa using he
              have He := Lib.hid he
              clear he
              go_wp2
              go_round
              case rel => exact ⟨t + 1, by omega, by go_num, by rw [Hx.out, if_pos He.out]; go_num⟩
              case measure => simp [intOf]; omega
            · have hb : (x.2 == i) = false := by simpa using he
              have He := Lib.hid he
              clear he
              go_wp2
              go_round
              case rel => exact ⟨t + 1, by omega, by go_num, by rw [Hx.out, if_neg He.out]; rfl⟩
              case measure => simp [intOf]; omega
          · obtain rfl : t = es.length := by omega
            rw [List.take_length]
            go_wp2
            go_round
            case rel => exact ⟨k + 1, by omega, by omega, by go_num, by rw [Hs1.out]⟩
            case measure => simp [intOf]; omega
      · obtain rfl : k = d.length := by omega
        rw [List.take_length]
        go_wp2
        go_ret
        exact ⟨rfl, (Keeps.refl _ _).alloc _⟩
theorem r4used_any (h : RefAt S w p c d) (hz : nd d 0 = Nd.gone) (h2 : 1 ≤ d.length) (hI : DInv d) (hs : smallD d) :
    Calls Tryz.prog 37 #[refV p c d room] w fun e w' => e = .returned (.int .i64 (used d)) ∧ Keeps NoB w w' := by
  have hcap := h.cap
  have hmax := h.max
  unfold maxLen at hmax
  have hul := used_le2 hI hs
  have hlen := mass_ge d
  have h0 := cnt_one hz h2 room1 rfl
  have hs0 := hs
  unfold smallD at hs
  unfold refV
  have key : ∀ (k : Nat), k < d.length → ∃ g off q n m, p = some ⟨g, off, none⟩ ∧ g < w.heap.size ∧ w.cell? ⟨g, off + k * 5 + 3, none⟩ = some (.string (nd d k).data) ∧ w.cell? ⟨g, off + k * 5 + 4, none⟩ = some (.slice q n m) ∧ n = (nd d k).ents.length ∧ SlAt encEnt S w q m (nd d k).ents ∧
      sumBy room1 (d.take (k + 1)) = sumBy room1 (d.take k) + ((nd d k).data.size + entSize (nd d k).ents) ∧ sumBy room1 (d.take (k + 1)) ≤ used d ∧ (nd d k).ents.length < 4294967295 := fun k hk => by
    obtain ⟨g, off, q, n, m, hp, _, hg, _, _, _, c3, c4, hn, hsl⟩ := h.row hk
    exact ⟨g, off, q, n, m, hp, hg, c3, c4, hn, hsl, sumBy_take _ _ _ hk, sumBy_le _ _ _, nd_ents_len hs0 k⟩
  have Hk := Lib.hid key
  have H0 := Lib.hid h0
  have Hul := Lib.hid hul
  have Hlen := Lib.hid hlen
  clear key h hz h0 hul hlen hs0 hI
  go_enter Tryz.func37, Tryz.ntmps37
  go_wp2
  go_loop [3, 4] (fun s x => ∃ k : Nat, 1 ≤ k ∧ k ≤ d.length ∧ x = .int .i64 k ∧ s = .int .i64 ((sumBy room1 (d.take k) : Nat) : Int)) (fun _ x => d.length - (intOf x).toNat)
  case atStart => exact ⟨1, Nat.le_refl _, h2, rfl, by rw [H0.out]; rfl⟩
  case round =>
    obtain ⟨k, hk1, hk2, rfl, rfl⟩ := hrel
    by_cases hlt : k < d.length
    · obtain ⟨g, off, q, n, m, rfl, hg, c3, c4, hn, hsl, hs1, hs2, hel⟩ := Hk.out k hlt
      have Hs1 := Lib.hid hs1
      have hb1 : ((sumBy room1 (d.take (k + 1)) : Nat) : Int) ≤ 9007199254740992 := by have := Hul.out; omega
      rw [hs1] at hb1
      clear hs1 hs2
      subst hn
      clear Hk
      generalize (nd d k).ents = es at *
      generalize (nd d k).data = dt at *
      generalize sumBy room1 (d.take k) = A at *
      go_wp2
      go_loop [3, 5] (fun s x => ∃ t : Nat, t ≤ es.length ∧ x = .int .i64 t ∧ s = .int .i64 ((A + (dt.size + entSize (es.take t)) : Nat) : Int)) (fun _ x => es.length - (intOf x).toNat)
      case atStart => exact ⟨0, Nat.zero_le _, rfl, by simp [entSize]⟩
      case round =>
        obtain ⟨t, ht, rfl, rfl⟩ := hrel
        by_cases hlt2 : t < es.length
        · obtain ⟨x, hx⟩ : ∃ x, es[t]? = some x := ⟨_, List.getElem?_eq_getElem hlt2⟩
          obtain ⟨g2, off2, rfl, _, hg2, e0, e1⟩ := hsl.ent hx
          have hx1 := entSize_take es t x hx
          have hle := entSize_part es (t + 1)
          have hcap2 := hsl.cap
          have hmax2 := hsl.max
          unfold maxLen at hmax2
          rw [hx1] at hle
          have Hx := Lib.hid hx1
          clear hx hx1
          go_wp2
          go_round
          case rel => exact ⟨t + 1, by omega, by go_num, by rw [Hx.out]; go_num⟩
          case measure => simp [intOf]; omega
        · obtain rfl : t = es.length := by omega
          rw [List.take_length]
          go_wp2
          go_round
          case rel => exact ⟨k + 1, by omega, by omega, by go_num, by rw [Hs1.out]⟩
          case measure => simp [intOf]; omega
    · obtain rfl : k = d.length := by omega
      rw [List.take_length]
      go_wp2
      go_ret
      exact ⟨rfl, (Keeps.refl _ _).alloc _⟩
theorem count_le_mass (d : Nds) : count d ≤ d.length := by
  induction d with
  | nil => simp [count, sumBy]
  | cons a d ih =>
    simp only [count, sumBy, List.map_cons, List.sum_cons, List.length_cons] at ih ⊢
    have : here1 a ≤ 1 := by unfold here1; split <;> omega
    omega
theorem r4count_any (h : RefAt S w p c d) (hz : nd d 0 = Nd.gone) (h2 : 1 ≤ d.length) (hs : smallD d) :
    Calls Tryz.prog 227 #[refV p c d room] w fun e w' => e = .returned (.int .i64 (count d)) ∧ Keeps NoB w w' := by
  have hcap := h.cap
  have hmax := h.max
  unfold maxLen at hmax
  have hlen := mass_ge d
  have h0 := cnt_one hz h2 here1 rfl
  unfold smallD at hs
  have hcl := count_le_mass d
  have Hh := Lib.hid (fun (wx : World) (hk : Keeps NoB w wx) (k : Nat) => r4has_any (room := room) (h.keepN hk) hz (k : Int))
  have Hs := Lib.hid (fun (k : Nat) (hk : k < d.length) => (⟨sumBy_take here1 d k hk, sumBy_le here1 d (k + 1)⟩ : _ ∧ _))
  have H0 := Lib.hid h0
  have Hl := Lib.hid hlen
  clear h hz h0 hlen
  unfold refV at *
  go_enter Tryz.func227, Tryz.ntmps227
  go_wp2
  go_loopw [3, 4] (fun s x wr => ∃ k : Nat, 1 ≤ k ∧ k ≤ d.length ∧ x = .int .i64 k ∧ s = .int .i64 ((sumBy here1 (d.take k) : Nat) : Int) ∧ Keeps NoB (w.alloc (.cells #[.slice p d.length c, .int .i64 room] 35)) wr) (fun _ x _ => d.length - (intOf x).toNat)
  case atStart => exact ⟨1, Nat.le_refl _, h2, rfl, by rw [H0.out]; rfl, Keeps.refl _ _⟩
  case round =>
    rename_i wr
    obtain ⟨k, hk1, hk2, rfl, rfl, hkp⟩ := hrel
    have Hkp := Lib.hid hkp
    have Hk0 := Lib.hid (((Keeps.refl NoB w).alloc (.cells #[.slice p d.length c, .int .i64 room] 35)).trans hkp)
    have b0 : wr.cell? ⟨w.heap.size, 0, none⟩ = some (.slice p d.length c) := (hkp.cell (p := ⟨w.heap.size, 0, none⟩) (by simp) (fun h => h)).trans (cell_of_row _ _ _ _ _ (0, 0) (heap_alloc_new w _))
    have b1 : wr.cell? ⟨w.heap.size, 1, none⟩ = some (.int .i64 room) := (hkp.cell (p := ⟨w.heap.size, 1, none⟩) (by simp) (fun h => h)).trans (cell_of_row _ _ _ _ _ (0, 0) (heap_alloc_new w _))
    clear hkp
    by_cases hlt : k < d.length
    · obtain ⟨hs1, hs2⟩ := Hs.out k hlt
      have Hs1 := Lib.hid hs1
      have hb1 : sumBy here1 (d.take (k + 1)) ≤ 2147483648 := by have := Hl.out; have : sumBy here1 (d.take (k + 1)) ≤ d.length := Nat.le_trans hs2 hcl; omega
      rw [hs1] at hb1
      clear hs1 hs2
      have hh := Hh.out wr Hk0.out k
      by_cases he : has d (k : Int)
      · have e1 : here1 (nd d (k : Int)) = 1 := if_neg he
        rw [decide_eq_true he] at hh
        rw [e1] at hb1
        have HH := Lib.hid hh
        have E1 := Lib.hid e1
        clear hh e1
        go_wp2_with (go_at_call 68; refine HH.out.mono ?_; rintro e w2 ⟨rfl, hk2⟩)
        go_roundw
        case rel => exact ⟨k + 1, by omega, by omega, by go_num, by rw [Hs1.out, E1.out]; go_num, Hkp.out.trans hk2⟩
        case measure => simp [intOf]; omega
      · have e1 : here1 (nd d (k : Int)) = 0 := if_pos (not_has he)
        rw [decide_eq_false he] at hh
        rw [e1] at hb1
        have HH := Lib.hid hh
        have E1 := Lib.hid e1
        clear hh e1
        go_wp2_with (go_at_call 68; refine HH.out.mono ?_; rintro e w2 ⟨rfl, hk2⟩)
        go_roundw
        case rel => exact ⟨k + 1, by omega, by omega, by go_num, by rw [Hs1.out, E1.out]; rfl, Hkp.out.trans hk2⟩
        case measure => simp [intOf]; omega
    · obtain rfl : k = d.length := by omega
      rw [List.take_length]
      go_wp2
      go_ret
      exact ⟨rfl, Hk0.out⟩
end
end Go.Proofs.YtijbhmledmnifaaGreatDoor

/-
  Contracts of package disk, the eighth part: Write.
-/
namespace Go.Proofs.YtijbhmledmnifaaGreatDoor
open Go.RowKit
set_option maxRecDepth 100000
set_option maxHeartbeats 1000000
def endOf (d : Nds) (i x : Int) (s : ByteArray) : Nat := max (nd d i).data.size (x.toNat + s.size)
def writeErr (d : Nds) (room i x : Int) (s : ByteArray) : Int :=
  if fileErr d i ≠ 0 then fileErr d i else if x < 0 then 10 else if s.size = 0 then 0 else if 4194304 < x then 18 else if 4194304 - x < s.size then 18 else if room - used d < endOf d i x s - (nd d i).data.size then 20 else 0
def writeNd (n : Nd) (x : Nat) (s : ByteArray) : Nd := n.setData (over (n.data ++ noughts (max n.data.size (x + s.size) - n.data.size)) x s)
def writeTo (d : Nds) (room i x : Int) (s : ByteArray) : Nds := if writeErr d room i x s = 0 ∧ s.size ≠ 0 then upd d i (writeNd (nd d i) x.toNat s) else d
section
variable {R : RD} {w : World} {a : Nat} {d : Nds} {room : Int}
end
end Go.Proofs.YtijbhmledmnifaaGreatDoor

/-
  Contracts of the reference for layer 4, the second part: what only reads.
-/
namespace Go.Proofs.YtijbhmledmnifaaGreatDoor
open Go.RowKit
set_option maxRecDepth 100000
set_option maxHeartbeats 2000000
structure RowAt (S : Nat → Prop) (w : World) (g off k : Nat) (x : Nd) (q : Option Addr) (m : Nat) : Prop where
  lt : g < w.heap.size
  c0 : w.cell? ⟨g, off + k * 5, none⟩ = some (.int .i64 x.kind)
  c1 : w.cell? ⟨g, off + k * 5 + 1, none⟩ = some (.int .i64 x.mode)
  c2 : w.cell? ⟨g, off + k * 5 + 2, none⟩ = some (.int .i64 x.holds)
  c3 : w.cell? ⟨g, off + k * 5 + 3, none⟩ = some (.string x.data)
  c4 : w.cell? ⟨g, off + k * 5 + 4, none⟩ = some (.slice q x.ents.length m)
  sl : SlAt encEnt S w q m x.ents
theorem RowAt.keepN {S : Nat → Prop} {w w' : World} {g off k : Nat} {x : Nd} {q : Option Addr} {m : Nat} (h : RowAt S w g off k x q m) (hk : Keeps NoB w w') : RowAt S w' g off k x q m :=
  ⟨Nat.lt_of_lt_of_le h.lt hk.size, (hk.cell (p := ⟨g, _, none⟩) h.lt (fun h => h)).trans h.c0, (hk.cell (p := ⟨g, _, none⟩) h.lt (fun h => h)).trans h.c1, (hk.cell (p := ⟨g, _, none⟩) h.lt (fun h => h)).trans h.c2,
    (hk.cell (p := ⟨g, _, none⟩) h.lt (fun h => h)).trans h.c3, (hk.cell (p := ⟨g, _, none⟩) h.lt (fun h => h)).trans h.c4, h.sl.keepN hk⟩
theorem boxed {w w1 : World} {cs : Array Value} {T : TypeId} (hk : Keeps NoB (w.alloc (.cells cs T)) w1) (j : Nat) (v : Value) (hv : cs[j]? = some v) : w1.cell? ⟨w.heap.size, j, none⟩ = some v := by
  have hn := heap_alloc_new w (.cells cs T)
  have h4 := (hk.block w.heap.size (by simp) (fun h => h)).trans hn
  rw [cell_of_row w1 _ j _ T (0, 0) h4]
  exact hv
section
variable {S : Nat → Prop} {w : World} {p : Option Addr} {c : Nat} {d : Nds} {room : Int}
theorem RefAt.rowAt (h : RefAt S w p c d) {k : Nat} (hk : k < d.length) : ∃ g off q m, p = some ⟨g, off, none⟩ ∧ S g ∧ RowAt S w g off k (nd d k) q m := by
  obtain ⟨g, off, q, n, m, hp, hS, hg, c0, c1, c2, c3, c4, hn, hsl⟩ := h.row hk
  subst hn
  exact ⟨g, off, q, m, hp, hS, hg, c0, c1, c2, c3, c4, hsl⟩
theorem has_nat {i : Int} (h : has d i) : ∃ k : Nat, i = (k : Int) ∧ k < d.length := by
  have := has_range h
  exact ⟨i.toNat, by omega, this.2⟩
theorem r4folder_any (h : RefAt S w p c d) (hz : nd d 0 = Nd.gone) (i : Int) :
    Calls Tryz.prog 191 #[refV p c d room, .int .i64 i] w fun e w' => e = .returned (.int .i64 (folderErr d i)) ∧ Keeps NoB w w' := by
  have hcap := h.cap
  have hmax := h.max
  unfold maxLen at hmax
  have hal : Keeps NoB w (w.alloc (.cells #[.slice p d.length c, .int .i64 room] 35)) := (Keeps.refl _ _).alloc _
  have hh := r4has_any (room := room) (h.keepN hal) hz i
  unfold folderErr
  by_cases hi : has d i
  · rw [if_neg hi]
    rw [decide_eq_true hi] at hh
    obtain ⟨k, rfl, hk⟩ := has_nat hi
    obtain ⟨g, off, q, m, rfl, hS, hrow⟩ := h.rowAt hk
    have HR := Lib.hid hrow
    have HH := Lib.hid hh
    have HA := Lib.hid hal
    clear hh hrow h hz hi hal
    unfold refV at *
    by_cases h2 : (nd d (k : Int)).kind = 2
    · rw [if_pos h2]
      go_enter Tryz.func191, Tryz.ntmps191
      go_wp2_with (go_at_call 68; refine HH.out.mono ?_; rintro e w1 ⟨rfl, hk1⟩; have b0 : w1.cell? ⟨w.heap.size, 0, none⟩ = some (.slice (some ⟨g, off, none⟩) d.length c) := boxed hk1 0 _ rfl; have hr1 := HR.out.keepN (HA.out.trans hk1); have c0 := hr1.c0)
      go_ret
      exact ⟨rfl, HA.out.trans hk1⟩
    · rw [if_neg h2]
      go_enter Tryz.func191, Tryz.ntmps191
      go_wp2_with (go_at_call 68; refine HH.out.mono ?_; rintro e w1 ⟨rfl, hk1⟩; have b0 : w1.cell? ⟨w.heap.size, 0, none⟩ = some (.slice (some ⟨g, off, none⟩) d.length c) := boxed hk1 0 _ rfl; have hr1 := HR.out.keepN (HA.out.trans hk1); have c0 := hr1.c0)
      go_ret
      exact ⟨rfl, HA.out.trans hk1⟩
  · rw [if_pos (not_has hi)]
    rw [decide_eq_false hi] at hh
    have HH := Lib.hid hh
    have HA := Lib.hid hal
    clear hh h hz hi hal
    unfold refV at *
    go_enter Tryz.func191, Tryz.ntmps191
    go_wp2_with (go_at_call 68; refine HH.out.mono ?_; rintro e w1 ⟨rfl, hk1⟩)
    go_ret
    exact ⟨rfl, HA.out.trans hk1⟩
theorem entGet_idx {es : List Ent} (hr : Rising es) (name : ByteArray) : (entGet es name = none ∧ entIdx es name = -1) ∨ ∃ (t : Nat) (x : Ent), es[t]? = some x ∧ entGet es name = some x.2 ∧ entIdx es name = (t : Int) := by
  cases hg : entGet es name with
  | none =>
    have hh : entHas es name = false := by rw [← entGet_isSome, hg]; rfl
    exact .inl ⟨rfl, by unfold entIdx; rw [hh]; rfl⟩
  | some k =>
    obtain ⟨h1, _⟩ := ent_split hr hg
    exact .inr ⟨_, _, h1, rfl, by unfold entIdx; rw [entGet_has hg]; rfl⟩
theorem r4look_any (h : RefAt S w p c d) (hI : DInv d) (i : Int) (name : ByteArray) :
    Calls Tryz.prog 195 #[refV p c d room, .int .i64 i, .string name] w fun e w' => e = .returned (.tuple #[.int .i64 (lookOf d i name), .int .i64 (lookErr d i name)]) ∧ Keeps NoB w w' := by
  have hcap := h.cap
  have hmax := h.max
  unfold maxLen at hmax
  have hal : Keeps NoB w (w.alloc (.cells #[.slice p d.length c, .int .i64 room] 35)) := (Keeps.refl _ _).alloc _
  have hh := r4folder_any (room := room) (h.keepN hal) hI.zero i
  have HA := Lib.hid hal
  by_cases f0 : folderErr d i = 0
  · obtain ⟨hi, hi2⟩ := folderErr_zero f0
    rw [f0] at hh
    have HH := Lib.hid hh
    have hris := (hI.node i).rising
    obtain ⟨k, rfl, hk⟩ := has_nat hi
    obtain ⟨g, off, q, m, rfl, hS, hrow⟩ := h.rowAt hk
    have hcap2 := hrow.sl.cap
    have hmax2 := hrow.sl.max
    unfold maxLen at hmax2
    have HF := Lib.hid (fun (w1 : World) (hk1 : Keeps NoB w w1) => r3find_any S w1 q m (nd d (k : Int)).ents name (hrow.sl.keepN hk1) hris)
    have HC := Lib.hid (fun (w1 : World) (hk1 : Keeps NoB w w1) => (⟨(hrow.keepN hk1).c4, (hrow.keepN hk1).lt⟩ : _ ∧ _))
    rcases entGet_idx hris name with ⟨g1, g2⟩ | ⟨t, x, hx, g1, g2⟩
    · have e1 : lookErr d k name = 12 := by unfold lookErr; rw [if_neg (by simpa using f0), g1]; rfl
      have e2 : lookOf d k name = 0 := by unfold lookOf; rw [if_neg (by simpa using f0), g1]; rfl
      rw [e1, e2]
      rw [g2] at HF
      clear hh h hal hI e1 e2 g1 g2 f0 hi hi2 hris hrow
      generalize (nd d (k : Int)).ents = es at *
      unfold refV at *
      go_enter Tryz.func195, Tryz.ntmps195
      go_wp2_with (first | (go_at_call 191; refine HH.out.mono ?_; rintro e w1 ⟨rfl, hk1⟩; have b0 : w1.cell? ⟨w.heap.size, 0, none⟩ = some (.slice (some ⟨g, off, none⟩) d.length c) := boxed hk1 0 _ rfl; obtain ⟨c4, hgl⟩ := HC.out _ (HA.out.trans hk1)) | (go_at_call 248; refine (HF.out _ (HA.out.trans hk1)).mono ?_; rintro e w2 ⟨rfl, rfl⟩))
      go_ret2
      exact ⟨rfl, HA.out.trans hk1⟩
    · have e1 : lookErr d k name = 0 := by unfold lookErr; rw [if_neg (by simpa using f0), g1]; rfl
      have e2 : lookOf d k name = x.2 := by unfold lookOf; rw [if_neg (by simpa using f0), g1]; rfl
      rw [e1, e2]
      rw [g2] at HF
      obtain ⟨g3, off3, rfl, _, hg3, a0, a1⟩ := hrow.sl.ent hx
      have ht := (List.getElem?_eq_some_iff.1 hx).1
      have HX := Lib.hid (fun (w1 : World) (hk1 : Keeps NoB w w1) => (⟨(hk1.cell (p := ⟨g3, _, none⟩) hg3 (fun h => h)).trans a1, Nat.lt_of_lt_of_le hg3 hk1.size⟩ : w1.cell? ⟨g3, _, none⟩ = _ ∧ g3 < w1.heap.size))
      clear hh h hal hI e1 e2 g1 g2 f0 hi hi2 hris hrow hx a0 a1
      generalize (nd d (k : Int)).ents = es at *
      unfold refV at *
      go_enter Tryz.func195, Tryz.ntmps195
      go_wp2_with (first | (go_at_call 191; refine HH.out.mono ?_; rintro e w1 ⟨rfl, hk1⟩; have b0 : w1.cell? ⟨w.heap.size, 0, none⟩ = some (.slice (some ⟨g, off, none⟩) d.length c) := boxed hk1 0 _ rfl; obtain ⟨c4, hgl⟩ := HC.out _ (HA.out.trans hk1); obtain ⟨x1, x2⟩ := HX.out _ (HA.out.trans hk1)) | (go_at_call 248; refine (HF.out _ (HA.out.trans hk1)).mono ?_; rintro e w2 ⟨rfl, rfl⟩))
      go_ret2
      exact ⟨rfl, HA.out.trans hk1⟩
  · have e1 : lookErr d i name = folderErr d i := if_pos f0
    have e2 : lookOf d i name = 0 := if_pos f0
    rw [e1, e2]
    have HH := Lib.hid hh
    clear hh h hal hI e1 e2
    unfold refV at *
    generalize folderErr d i = er at *
    go_enter Tryz.func195, Tryz.ntmps195
    go_wp2_with (go_at_call 191; refine HH.out.mono ?_; rintro e w1 ⟨rfl, hk1⟩)
    go_ret2
    exact ⟨rfl, HA.out.trans hk1⟩
end
end Go.Proofs.YtijbhmledmnifaaGreatDoor

/-
  Contracts of the reference for layer 4, the third part: Up, Below, gives, noughts, Read.
-/
namespace Go.Proofs.YtijbhmledmnifaaGreatDoor
open Go.RowKit
set_option maxRecDepth 100000
set_option maxHeartbeats 2000000
section
variable {S : Nat → Prop} {w : World} {p : Option Addr} {c : Nat} {d : Nds} {room : Int}
theorem cnt_from (d : Nds) (i : Int) (hz : nd d 0 = Nd.gone) (h : ∀ k : Nat, 1 ≤ k → k < d.length → nms i (nd d k).ents = 0) : cnt d i = 0 := by
  rcases Nat.eq_zero_or_pos (cnt d i) with h0 | h0
  · exact h0
  · obtain ⟨j, e, he, hi⟩ := cnt_pos.1 h0
    have hr : 0 ≤ j ∧ j.toNat < d.length := by
      by_cases hh : 0 ≤ j ∧ j.toNat < d.length
      · exact hh
      · rw [nd_gone hh] at he; cases he
    have h1 : 1 ≤ j.toNat := by
      by_cases hj : j = 0
      · subst hj; rw [hz] at he; cases he
      · omega
    have := h j.toNat h1 hr.2
    rw [Int.toNat_of_nonneg hr.1] at this
    have := nms_pos.2 ⟨e, he, hi⟩
    omega
theorem r4up_any (h : RefAt S w p c d) (hz : nd d 0 = Nd.gone) (h2 : 1 ≤ d.length) (hs : smallD d) (i : Int) :
    Calls Tryz.prog 147 #[refV p c d room, .int .i64 i] w fun e w' => ∃ u, e = .returned (.int .i64 u) ∧ UpIs d i u ∧ Keeps NoB w w' := by
  have hcap := h.cap
  have hmax := h.max
  unfold maxLen at hmax
  have hs0 := hs
  unfold smallD at hs
  have hlen := mass_ge d
  have HZ := Lib.hid hz
  have key : ∀ (k : Nat), k < d.length → ∃ g off q m, p = some ⟨g, off, none⟩ ∧ RowAt S w g off k (nd d k) q m ∧ (nd d k).ents.length < 4294967295 := fun k hk => by
    obtain ⟨g, off, q, m, hp, _, hr⟩ := h.rowAt hk
    exact ⟨g, off, q, m, hp, hr, nd_ents_len hs0 k⟩
  have Hk := Lib.hid key
  have HA : Hid (Keeps NoB w (w.alloc (.cells #[.slice p d.length c, .int .i64 room] 35))) := (Keeps.refl _ _).alloc _
  clear key h hz hs0
  unfold refV
  go_enter Tryz.func147, Tryz.ntmps147
  go_wp2
  go_loop [5] (fun x => ∃ k : Nat, 1 ≤ k ∧ k ≤ d.length ∧ x = .int .i64 k ∧ ∀ k' : Nat, 1 ≤ k' → k' < k → nms i (nd d k').ents = 0) (fun x => d.length - (intOf x).toNat)
  case atStart => exact ⟨1, Nat.le_refl _, h2, rfl, fun k' h1 h2 => by omega⟩
  case round =>
    obtain ⟨k, hk1, hk2, rfl, hno⟩ := hrel
    have Hno := Lib.hid hno
    clear hno
    by_cases hlt : k < d.length
    · obtain ⟨g, off, q, m, rfl, hrow, hel⟩ := Hk.out k hlt
      have hsl := hrow.sl
      have c4 := hrow.c4
      have hg := hrow.lt
      clear hrow
      clear Hk
      have HE : Hid (∀ t : Nat, t ≤ (nd d (k : Int)).ents.length → True) := fun _ _ => trivial
      generalize hes : (nd d (k : Int)).ents = es at *
      have Hes := Lib.hid hes
      clear hes HE
      go_wp2
      go_loop [6] (fun x => ∃ t : Nat, t ≤ es.length ∧ x = .int .i64 t ∧ nms i (es.take t) = 0) (fun x => es.length - (intOf x).toNat)
      case atStart => exact ⟨0, Nat.zero_le _, rfl, rfl⟩
      case round =>
        obtain ⟨t, ht, rfl, hnm⟩ := hrel
        have Hnm := Lib.hid hnm
        clear hnm
        by_cases hlt2 : t < es.length
        · obtain ⟨x, hx⟩ : ∃ x, es[t]? = some x := ⟨_, List.getElem?_eq_getElem hlt2⟩
          obtain ⟨g2, off2, rfl, _, hg2, e0, e1⟩ := hsl.ent hx
          have Hx := Lib.hid hx
          have hcap2 := hsl.cap
          have hmax2 := hsl.max
          unfold maxLen at hmax2
          clear hx
          by_cases he : x.2 = i
          · have hb : (x.2 == i) = true := by simpa using he
            have He := Lib.hid he
            clear he
            go_wp2
            go_ret
            refine ⟨(k : Int), rfl, .inr ⟨x, ?_, He.out⟩, HA.out⟩
            rw [Hes.out]
            exact List.mem_of_getElem? Hx.out
          · have hb : (x.2 == i) = false := by simpa using he
            have He := Lib.hid he
            clear he
            go_wp2
            go_round
            case rel => exact ⟨t + 1, by omega, by go_num, by rw [nms_take es i t x Hx.out, if_neg He.out, Hnm.out]⟩
            case measure => simp [intOf]; omega
        · obtain rfl : t = es.length := by omega
          go_wp2
          go_round
          case rel =>
            refine ⟨k + 1, by omega, by omega, by go_num, fun k' h1 h3 => ?_⟩
            by_cases e : k' = k
            · subst e
              have := Hnm.out
              rw [List.take_length] at this
              rw [Hes.out]; exact this
            · exact Hno.out k' h1 (by omega)
          case measure => simp [intOf]; omega
    · obtain rfl : k = d.length := by omega
      go_wp2
      go_ret
      exact ⟨1, rfl, .inl ⟨cnt_from d i HZ.out Hno.out, rfl⟩, HA.out⟩
def SaysIf (w w' : World) (e : Ending) (P : Prop) : Prop := ∃ b : Bool, e = .returned (.bool b) ∧ (b = true ↔ P) ∧ Keeps NoB w w'
theorem r4below_any (h : RefAt S w p c d) (hI : DInv d) (hs : smallD d) (i top : Int) (hi : (nd d i).kind = 2) (ht : top ≠ 1) :
    Calls Tryz.prog 203 #[refV p c d room, .int .i64 i, .int .i64 top] w fun e w' => SaysIf w w' e (Above d top i) := by
  have hcap := h.cap
  have hmax := h.max
  unfold maxLen at hmax
  have hlen := mass_ge d
  have h2 := hI.two
  have HU := Lib.hid (fun (w1 : World) (hk : Keeps NoB w w1) (x : Int) => r4up_any (room := room) (h.keepN hk) hI.zero (by omega) hs x)
  have HI := Lib.hid hI
  have hanc := ancs_le d i
  unfold smallD at hs
  clear h hI
  unfold refV at *
  have HT : Hid (¬ Above d top 1) := fun ha => ht ((above_top (no_par_root HI.out)).1 ha)
  go_enter Tryz.func203, Tryz.ntmps203
  go_wp2
  go_loopw [1, 7] (fun x s wr => ∃ (n : Nat) (id : Int), n ≤ d.length ∧ s = .int .i64 n ∧ x = .int .i64 id ∧ (nd d id).kind = 2 ∧ (Above d top id ↔ Above d top i) ∧ (n + ancs d id ≤ d.length ∨ id = 1) ∧ Keeps NoB (w.alloc (.cells #[.slice p d.length c, .int .i64 room] 35)) wr) (fun _ s _ => d.length + 1 - (intOf s).toNat)
  case atStart => exact ⟨0, i, Nat.zero_le _, rfl, rfl, hi, Iff.rfl, .inl (by omega), Keeps.refl _ _⟩
  case round =>
    rename_i wr
    obtain ⟨n, id, hn, rfl, rfl, hk2, hiff, hm, hkp⟩ := hrel
    have Hkp := Lib.hid hkp
    have Hk0 := Lib.hid (((Keeps.refl NoB w).alloc (.cells #[.slice p d.length c, .int .i64 room] 35)).trans hkp)
    have b0 : wr.cell? ⟨w.heap.size, 0, none⟩ = some (.slice p d.length c) := boxed hkp 0 _ rfl
    have b1 : wr.cell? ⟨w.heap.size, 1, none⟩ = some (.int .i64 room) := boxed hkp 1 _ rfl
    have Hiff := Lib.hid hiff
    have Hm := Lib.hid hm
    have Hk2 := Lib.hid hk2
    have hu := HU.out wr Hk0.out id
    clear hkp hiff hm hk2
    by_cases e1 : id = top
    · have hb : (id == top) = true := by simpa using e1
      have He := Lib.hid e1
      clear e1 hu
      go_wp2
      go_ret
      refine ⟨true, rfl, ⟨fun _ => Hiff.out.1 ?_, fun _ => rfl⟩, Hk0.out⟩
      rw [He.out]; exact .self
    · have hb : (id == top) = false := by simpa using e1
      have He := Lib.hid e1
      clear e1
      by_cases e2 : id = 1
      · subst e2
        clear hu
        go_wp2
        go_ret
        exact ⟨false, rfl, ⟨(fun h => by cases h), fun h => absurd (Hiff.out.2 h) HT.out⟩, Hk0.out⟩
      · have hb1 : (id == 1) = false := by simpa using e2
        have Hne := Lib.hid e2
        have HUn := Lib.hid hu
        clear e2 hu
        go_wp2_with (go_at_call 147; refine HUn.out.mono ?_; rintro e w2 ⟨u, rfl, hup, hk2⟩)
        have hms := Hm.out.resolve_right Hne.out
        have hps := ancs_pos (setE_pos HI.out Hk2.out)
        go_roundw
        case rel =>
          rcases hup.par Hk2.out with ⟨hc, rfl⟩ | hp
          · refine ⟨n + 1, 1, by omega, by go_num, rfl, HI.out.root, ?_, .inr rfl, Hkp.out.trans hk2⟩
            have h3 := above_top (k := top) (no_par_cnt hc)
            exact ⟨fun h => absurd h HT.out, fun h => absurd (h3.1 (Hiff.out.2 h)) (fun e => He.out e.symm)⟩
          · have hl := ancs_lt HI.out hp
            refine ⟨n + 1, u, by omega, by go_num, rfl, hp.dir HI.out, ?_, .inl (by omega), Hkp.out.trans hk2⟩
            rw [← Hiff.out, above_par HI.out hp (fun e => He.out e.symm)]
        case measure => simp [intOf]; omega
theorem r4gives_any (h : RefAt S w p c d) (k old : Int) (hk : has d k) (ho : has d old) :
    Calls Tryz.prog 204 #[refV p c d room, .int .i64 k, .int .i64 old] w fun e w' => e = .returned (.int .i64 (givesErr d k old)) ∧ Keeps NoB w w' := by
  have hcap := h.cap
  have hmax := h.max
  unfold maxLen at hmax
  have HA : Hid (Keeps NoB w (w.alloc (.cells #[.slice p d.length c, .int .i64 room] 35))) := (Keeps.refl _ _).alloc _
  obtain ⟨k, rfl, hk1⟩ := has_nat hk
  obtain ⟨o, rfl, ho1⟩ := has_nat ho
  obtain ⟨g, off, q, m, rfl, hS, hrow⟩ := h.rowAt hk1
  obtain ⟨g', off', q', m', hp', _, hrow'⟩ := h.rowAt ho1
  cases hp'
  have c0 := hrow.c0
  have d0 := hrow'.c0
  have d4 := hrow'.c4
  have hgl := hrow.lt
  have hcap2 := hrow'.sl.cap
  have hmax2 := hrow'.sl.max
  unfold maxLen at hmax2
  unfold givesErr
  have he : (nd d (o : Int)).ents ≠ [] ↔ 0 < (nd d (o : Int)).ents.length := by rw [List.length_pos_iff]
  simp only [he]
  clear h hrow hrow' he hk ho
  generalize (nd d (o : Int)).ents.length = ln at *
  generalize (nd d (k : Int)).kind = kk at *
  generalize (nd d (o : Int)).kind = ko at *
  unfold refV
  have hb : ∀ x : Int, (x = 2 ∧ (x == 2) = true ∧ (x != 2) = false) ∨ (x ≠ 2 ∧ (x == 2) = false ∧ (x != 2) = true) := fun x => by
    by_cases h : x = 2
    · exact .inl ⟨h, by simpa using h, by simpa using h⟩
    · exact .inr ⟨h, by simpa using h, by simpa using h⟩
  have hl : (0 < ln ∧ (0 : Int) < (ln : Int)) ∨ (¬ 0 < ln ∧ ¬ (0 : Int) < (ln : Int)) := by omega
  rcases hb kk with ⟨a1, a2, a3⟩ | ⟨a1, a2, a3⟩ <;> rcases hb ko with ⟨b1, b2, b3⟩ | ⟨b1, b2, b3⟩ <;> rcases hl with ⟨l1, l2⟩ | ⟨l1, l2⟩
  all_goals
    simp only [a1, b1, l1, ne_eq, not_true_eq_false, not_false_eq_true, and_true, and_false, true_and, false_and, if_true, if_false]
    clear a1 b1 l1 hb
    go_enter Tryz.func204, Tryz.ntmps204
    go_wp2
    go_ret
    exact ⟨rfl, HA.out⟩
end
end Go.Proofs.YtijbhmledmnifaaGreatDoor

/-
  Contracts of the reference for layer 4, the fourth part: put, free.
-/
namespace Go.Proofs.YtijbhmledmnifaaGreatDoor
open Go.RowKit
set_option maxRecDepth 100000
set_option maxHeartbeats 400000
def noRow : RRow := ⟨0, 0, 0, ByteArray.empty, none, 0, 0⟩
theorem tRow : ElemT Tryz.prog encRow 33 80 noRow 64 :=
  .of (.agg #[.int .i64 0, .int .i64 0, .int .i64 0, .string ByteArray.empty, .slice none 0 0]) Tryz.underlying33 (by kernel_rfl) rfl
theorem boxes2 {w w1 : World} {a b : Array Value} {ta tb : TypeId} (hk : Keeps NoB ((w.alloc (.cells a ta)).alloc (.cells b tb)) w1) :
    (∀ j v, a[j]? = some v → w1.cell? ⟨w.heap.size, j, none⟩ = some v) ∧ (∀ j v, b[j]? = some v → w1.cell? ⟨w.heap.size + 1, j, none⟩ = some v) ∧
    (∀ j, w1.frozen? ⟨w.heap.size, j, none⟩ = false) ∧ (∀ j, w1.frozen? ⟨w.heap.size + 1, j, none⟩ = false) ∧ w.heap.size + 2 ≤ w1.heap.size := by
  have n1 := heap_alloc_new w (.cells a ta)
  have n2 := heap_alloc_new (w.alloc (.cells a ta)) (.cells b tb)
  have s1 : (w.alloc (.cells a ta)).heap.size = w.heap.size + 1 := by simp
  have s2 : ((w.alloc (.cells a ta)).alloc (.cells b tb)).heap.size = w.heap.size + 2 := by simp
  rw [s1] at n2
  have n1' := (Below.heap_alloc (w.alloc (.cells a ta)) (.cells b tb) w.heap.size (by omega)).trans n1
  have b1 := (hk.block w.heap.size (by omega) (fun h => h)).trans n1'
  have b2 := (hk.block (w.heap.size + 1) (by omega) (fun h => h)).trans n2
  have := hk.size
  exact ⟨fun j v hv => by rw [cell_of_row w1 _ j _ ta (0, 0) b1]; exact hv, fun j v hv => by rw [cell_of_row w1 _ j _ tb (0, 0) b2]; exact hv, fun j => frozen_of_row w1 _ j _ ta b1, fun j => frozen_of_row w1 _ j _ tb b2, by omega⟩
theorem boxes3 {w w1 : World} {a b e : Array Value} {ta tb te : TypeId} (hk : Keeps NoB (((w.alloc (.cells a ta)).alloc (.cells b tb)).alloc (.cells e te)) w1) :
    (∀ j v, a[j]? = some v → w1.cell? ⟨w.heap.size, j, none⟩ = some v) ∧ (∀ j v, b[j]? = some v → w1.cell? ⟨w.heap.size + 1, j, none⟩ = some v) ∧ (∀ j v, e[j]? = some v → w1.cell? ⟨w.heap.size + 2, j, none⟩ = some v) ∧
    (∀ j, w1.frozen? ⟨w.heap.size, j, none⟩ = false) ∧ (∀ j, w1.frozen? ⟨w.heap.size + 1, j, none⟩ = false) ∧ (∀ j, w1.frozen? ⟨w.heap.size + 2, j, none⟩ = false) ∧ w.heap.size + 3 ≤ w1.heap.size := by
  have s2 : ((w.alloc (.cells a ta)).alloc (.cells b tb)).heap.size = w.heap.size + 2 := by simp
  have n3 := heap_alloc_new ((w.alloc (.cells a ta)).alloc (.cells b tb)) (.cells e te)
  rw [s2] at n3
  have s3 : (((w.alloc (.cells a ta)).alloc (.cells b tb)).alloc (.cells e te)).heap.size = w.heap.size + 3 := by simp
  have b3 := (hk.block (w.heap.size + 2) (by omega) (fun h => h)).trans n3
  obtain ⟨h1, h2, h3, h4, _⟩ := boxes2 (((Keeps.refl NoB _).alloc _).trans hk)
  have := hk.size
  exact ⟨h1, h2, fun j v hv => by rw [cell_of_row w1 _ j _ te (0, 0) b3]; exact hv, h3, h4, fun j => frozen_of_row w1 _ j _ te b3, by omega⟩
theorem results_cell_one {fn : Func} {p : Tmp} {ty : TypeId} (h : fn.results = #[.cell p ty]) (tmps : Array Value) (P : Program) (w : World) :
    (results fn tmps).run P w = ((asAddr (tmps.getD p undef)).run P w).andThen fun a w₁ => (loadVar ty a).run P w₁ := by
  simp only [results, h]
  simp [Sem.run_bind, Result.andThen]
def set5 (w : World) (g o : Nat) (v0 v1 v2 v3 v4 : Value) : World :=
  ((((w.setCell ⟨g, o, none⟩ v0).setCell ⟨g, o + 1, none⟩ v1).setCell ⟨g, o + 2, none⟩ v2).setCell ⟨g, o + 3, none⟩ v3).setCell ⟨g, o + 4, none⟩ v4
theorem set5_keeps (w : World) (g o : Nat) (v0 v1 v2 v3 v4 : Value) : Keeps (fun x => x = g) w (set5 w g o v0 v1 v2 v3 v4) := by
  unfold set5
  exact ((((keeps_set w ⟨g, o, none⟩ v0).trans (keeps_set _ ⟨g, o + 1, none⟩ v1)).trans (keeps_set _ ⟨g, o + 2, none⟩ v2)).trans (keeps_set _ ⟨g, o + 3, none⟩ v3)).trans (keeps_set _ ⟨g, o + 4, none⟩ v4)
theorem set5_size (w : World) (g o : Nat) (v0 v1 v2 v3 v4 : Value) : (set5 w g o v0 v1 v2 v3 v4).heap.size = w.heap.size := by unfold set5; simp [World.setCell]
theorem Own.row5 {e : TypeId} {S : Nat → Prop} {w : World} {g cp k : Nat} {rows : List RRow} {r0 : RRow} (h : Own encRow e S w (.slice (some ⟨g, 0, none⟩) rows.length cp) rows) (hk : rows[k]? = some r0) (r : RRow) :
    Own encRow e S (set5 w g (k * 5) (.int .i64 r.kind) (.int .i64 r.mode) (.int .i64 r.holds) (.string r.data) (.slice r.p r.n r.c)) (.slice (some ⟨g, 0, none⟩) rows.length cp) (rows.set k r) := by
  obtain ⟨hkl, hke⟩ := List.getElem?_eq_some_iff.1 hk
  have ln : ∀ (x : RRow), (rows.set k x).length = rows.length := fun x => by simp
  have gt : ∀ (x : RRow), (rows.set k x)[k]? = some x := fun x => by simp [hkl]
  have st : ∀ (x y : RRow), (rows.set k x).set k y = rows.set k y := fun x y => by simp
  have h1 := h.stored k 0 r0 ⟨r.kind, r0.mode, r0.holds, r0.data, r0.p, r0.n, r0.c⟩ (.int .i64 r.kind) hk (by decide) rfl
  rw [← ln ⟨r.kind, r0.mode, r0.holds, r0.data, r0.p, r0.n, r0.c⟩] at h1
  have h2 := h1.stored k 1 _ ⟨r.kind, r.mode, r0.holds, r0.data, r0.p, r0.n, r0.c⟩ (.int .i64 r.mode) (gt _) (by decide) rfl
  rw [st, ln, ← ln ⟨r.kind, r.mode, r0.holds, r0.data, r0.p, r0.n, r0.c⟩] at h2
  have h3 := h2.stored k 2 _ ⟨r.kind, r.mode, r.holds, r0.data, r0.p, r0.n, r0.c⟩ (.int .i64 r.holds) (gt _) (by decide) rfl
  rw [st, ln, ← ln ⟨r.kind, r.mode, r.holds, r0.data, r0.p, r0.n, r0.c⟩] at h3
  have h4 := h3.stored k 3 _ ⟨r.kind, r.mode, r.holds, r.data, r0.p, r0.n, r0.c⟩ (.string r.data) (gt _) (by decide) rfl
  rw [st, ln, ← ln ⟨r.kind, r.mode, r.holds, r.data, r0.p, r0.n, r0.c⟩] at h4
  have h5 := h4.stored k 4 _ r (.slice r.p r.n r.c) (gt _) (by decide) rfl
  rw [st, ln] at h5
  exact h5
theorem upd_nat_get {d : Nds} {k : Nat} (hk : k < d.length) (x : Nd) (j : Int) : nd (upd d (k : Int) x) j = if j = k then x else nd d j := nd_upd (by omega) (by omega) x j
section
variable {S : Nat → Prop} {w : World} {p : Option Addr} {c : Nat} {d : Nds} {room : Int}
theorem r4put_any (h : RefAt S w p c d) (hS : ∀ g, w.heap.size ≤ g → S g) (k : Nat) (hk : k < d.length) (hl : d.length ≤ 4294967296) (x : Nd) (q : Option Addr) (m : Nat) (hx : SlAt encEnt S w q m x.ents) :
    Calls Tryz.prog 168 #[refV p c d room, .int .i64 k, .agg #[.int .i64 x.kind, .int .i64 x.mode, .int .i64 x.holds, .string x.data, .slice q x.ents.length m]] w fun e w' =>
      ∃ v', e = .returned v' ∧ IsRef S w' v' (upd d k x) room ∧ Keeps NoB w w' := by
  have hcap := h.cap
  have hmax := h.max
  obtain ⟨rows, hr1, hr2, hr3⟩ := h.rows
  have hm2 := hmax
  unfold maxLen at hmax
  unfold refV
  have HSl := fun (wx : World) (hk : Keeps NoB w wx) => (⟨p, c, by rw [hr1], hr2.keepN hk⟩ : Sl encRow S wx (.slice p d.length c) rows)
  obtain ⟨v', w', happ, ho', hk', hf'⟩ := run_append (S := fun g => w.heap.size ≤ g) tRow 33 (Own.nil encRow 80 (fun g => w.heap.size ≤ g) _)
    (HSl (((w.alloc (.cells #[.slice p d.length c, .int .i64 room] 35)).alloc (.cells #[.int .i64 x.kind, .int .i64 x.mode, .int .i64 x.holds, .string x.data, .slice q x.ents.length m] 80)).alloc (.cells #[.slice none 0 0, .int .i64 0] 35))
      ((((Keeps.refl NoB w).alloc _).alloc _).alloc _)) (by simp; omega) (by simp; omega) (by simp; omega)
  rw [List.nil_append] at ho'
  have hkk := hk'.mono (G := NoB) (fun _ _ h => by cases h)
  obtain ⟨a1, a2, a3, z1, z2, z3, z4⟩ := boxes3 hkk
  obtain ⟨g, cp, cur, hv, hSg, hg, hcp, hcm, hsz, htk⟩ := ho'.row (by omega)
  subst hv
  have A0 : w'.cell? ⟨w.heap.size, 0, none⟩ = some (.slice p d.length c) := a1 0 _ rfl
  have A1 : w'.cell? ⟨w.heap.size, 1, none⟩ = some (.int .i64 room) := a1 1 _ rfl
  have B0 : w'.cell? ⟨w.heap.size + 1, 0, none⟩ = some (.int .i64 x.kind) := a2 0 _ rfl
  have B1 : w'.cell? ⟨w.heap.size + 1, 1, none⟩ = some (.int .i64 x.mode) := a2 1 _ rfl
  have B2 : w'.cell? ⟨w.heap.size + 1, 2, none⟩ = some (.int .i64 x.holds) := a2 2 _ rfl
  have B3 : w'.cell? ⟨w.heap.size + 1, 3, none⟩ = some (.string x.data) := a2 3 _ rfl
  have B4 : w'.cell? ⟨w.heap.size + 1, 4, none⟩ = some (.slice q x.ents.length m) := a2 4 _ rfl
  have C0 : w'.cell? ⟨w.heap.size + 2, 0, none⟩ = some (.slice none 0 0) := a3 0 _ rfl
  have C1 : w'.cell? ⟨w.heap.size + 2, 1, none⟩ = some (.int .i64 0) := a3 1 _ rfl
  have zg : ∀ j, w'.frozen? ⟨g, j, none⟩ = false := fun j => frozen_of_row w' g j cur _ hg
  have hgg : w.heap.size + 3 ≤ g := by
    rcases hf' g rfl with e | e
    · cases e
    · simpa using e
  have ne0 : ¬ g = w.heap.size := by omega
  have ne1 : ¬ g = w.heap.size + 1 := by omega
  have ne2 : ¬ g = w.heap.size + 2 := by omega
  obtain ⟨r0, hr0⟩ : ∃ r, rows[k]? = some r := ⟨_, List.getElem?_eq_getElem (by omega)⟩
  obtain ⟨_, _, hgo, _, _, hcc⟩ := ho'.at.at hr0
  cases hgo
  have D0 : w'.cell? ⟨g, k * 5, none⟩ = some (.int .i64 r0.kind) := by have := hcc 0 _ rfl; rwa [Nat.zero_add] at this
  have D1 : w'.cell? ⟨g, k * 5 + 1, none⟩ = some (.int .i64 r0.mode) := by have := hcc 1 _ rfl; rwa [Nat.zero_add] at this
  have D2 : w'.cell? ⟨g, k * 5 + 2, none⟩ = some (.int .i64 r0.holds) := by have := hcc 2 _ rfl; rwa [Nat.zero_add] at this
  have D3 : w'.cell? ⟨g, k * 5 + 3, none⟩ = some (.string r0.data) := by have := hcc 3 _ rfl; rwa [Nat.zero_add] at this
  have D4 : w'.cell? ⟨g, k * 5 + 4, none⟩ = some (.slice r0.p r0.n r0.c) := by have := hcc 4 _ rfl; rwa [Nat.zero_add] at this
  rw [hr1] at happ
  have hcp' : d.length ≤ cp := by omega
  unfold maxLen at hcm
  have HO := Lib.hid ho'
  have HKK := Lib.hid hkk
  have Hr0 := Lib.hid hr0
  have Hgg := Lib.hid hgg
  have Happ := Lib.hid happ
  have Hr1 := Lib.hid hr1
  have Hr3 := Lib.hid hr3
  clear ho' hkk hr0 hcc hk' hf' a1 a2 a3 htk hsz hSg hg hgg hr1 hr2 hr3 h hm2 HSl happ hcp
  go_enter Tryz.func168, Tryz.ntmps168
  have ne0' : ¬ w.heap.size = g := by omega
  have ne1' : ¬ w.heap.size + 1 = g := by omega
  have ne2' : ¬ w.heap.size + 2 = g := by omega
  go_upto_region 4 with (at_builtin; go_loud (refine Lib.wpList_append_run_sl _ rfl (.tmp 8) (.tmp 10) _ rfl _ _ rfl rfl Happ.out ?_))
  change Code.wp _ _ _ _ (set5 w' g (k * 5) (.int .i64 x.kind) (.int .i64 x.mode) (.int .i64 x.holds) (.string x.data) (.slice q x.ents.length m))
  have hk5 := set5_keeps w' g (k * 5) (.int .i64 x.kind) (.int .i64 x.mode) (.int .i64 x.holds) (.string x.data) (.slice q x.ents.length m)
  have hO5 := HO.out.row5 Hr0.out ⟨x.kind, x.mode, x.holds, x.data, q, x.ents.length, m⟩
  have hs5 := set5_size w' g (k * 5) (.int .i64 x.kind) (.int .i64 x.mode) (.int .i64 x.holds) (.string x.data) (.slice q x.ents.length m)
  generalize set5 w' g (k * 5) (.int .i64 x.kind) (.int .i64 x.mode) (.int .i64 x.holds) (.string x.data) (.slice q x.ents.length m) = w5 at *
  have A0' := (hk5.cell (p := ⟨w.heap.size, 0, none⟩) (by simp only; omega) ne0').trans A0
  have A1' := (hk5.cell (p := ⟨w.heap.size, 1, none⟩) (by simp only; omega) ne0').trans A1
  have C0' := (hk5.cell (p := ⟨w.heap.size + 2, 0, none⟩) (by simp only; omega) ne2').trans C0
  have C1' := (hk5.cell (p := ⟨w.heap.size + 2, 1, none⟩) (by simp only; omega) ne2').trans C1
  have z1' := fun j => (hk5.frozen (p := ⟨w.heap.size, j, none⟩) (by simp only; omega) ne0').trans (z1 j)
  have z3' := fun j => (hk5.frozen (p := ⟨w.heap.size + 2, j, none⟩) (by simp only; omega) ne2').trans (z3 j)
  have HK5 := Lib.hid hk5
  have HO5 := Lib.hid hO5
  have Hs5 := Lib.hid hs5
  have Hne := Lib.hid (⟨ne0, ne1, ne2⟩ : _ ∧ _ ∧ _)
  have Hx := Lib.hid hx
  clear A0 A1 B0 B1 B2 B3 B4 C0 C1 D0 D1 D2 D3 D4 z1 z2 z3 zg hk5 hO5 hs5 HO Happ ne0 ne1 ne2 ne0' ne1' ne2' hx
  go_wp2
  have hkw : Keeps NoB w w' := ((((Keeps.refl NoB w).alloc _).alloc _).alloc _).trans HKK.out
  have hw5 : Keeps NoB w w5 := hkw.step HK5.out (fun b hb => .inr (by have := Hgg.out; omega))
  (try simp only [Exit.inBlock, Exit.then])
  refine bodyPost_ret (v := .agg #[.slice (some ⟨g, 0, none⟩) d.length cp, .int .i64 room]) ?_ rfl ⟨_, rfl, ?_⟩
  · rw [results_cell_one rfl]
    go_simp
  · have k6 : Keeps (fun b => b = w.heap.size ∨ b = w.heap.size + 2) w5 (((w5.setCell ⟨w.heap.size, 0, none⟩ (.slice (some ⟨g, 0, none⟩) d.length cp)).setCell ⟨w.heap.size + 1 + 1, 0, none⟩ (.slice (some ⟨g, 0, none⟩) d.length cp)).setCell ⟨w.heap.size + 1 + 1, 1, none⟩ (.int .i64 room)) :=
      ((((keeps_set w5 ⟨w.heap.size, 0, none⟩ _).mono (fun b _ hb => .inl hb)).trans ((keeps_set _ ⟨w.heap.size + 1 + 1, 0, none⟩ _).mono (fun b _ hb => .inr hb))).trans ((keeps_set _ ⟨w.heap.size + 1 + 1, 1, none⟩ _).mono (fun b _ hb => .inr hb)))
    have kF : Keeps NoB w (((w5.setCell ⟨w.heap.size, 0, none⟩ (.slice (some ⟨g, 0, none⟩) d.length cp)).setCell ⟨w.heap.size + 1 + 1, 0, none⟩ (.slice (some ⟨g, 0, none⟩) d.length cp)).setCell ⟨w.heap.size + 1 + 1, 1, none⟩ (.int .i64 room)) :=
      hw5.step k6 (fun b hb => .inr (by omega))
    refine ⟨⟨some ⟨g, 0, none⟩, cp, by unfold refV; rw [upd_length], ⟨rows.set k ⟨x.kind, x.mode, x.holds, x.data, q, x.ents.length, m⟩, by rw [List.length_set, upd_length]; exact Hr1.out, ?_, fun i r hi => ?_⟩⟩, kF⟩
    · have h1 := HO5.out.keep k6 (fun b hb e => by
        simp [Value.ownBlock] at hb
        have := Hne.out
        subst hb
        rcases e with e | e
        · exact this.1 e
        · exact this.2.2 e)
      have h2 := h1.sl.mono (fun b hb _ => hS b hb)
      have : (rows.set k (⟨x.kind, x.mode, x.holds, x.data, q, x.ents.length, m⟩ : RRow)).length = rows.length := by simp
      rw [← this] at h2
      exact h2.at'
    · rw [List.getElem?_set] at hi
      rw [upd_nat_get hk]
      split at hi
      · next e =>
        subst e
        rw [if_pos rfl]
        split at hi
        · cases hi
          exact ⟨rfl, rfl, rfl, rfl, rfl, Hx.out.keepN kF⟩
        · cases hi
      · next e =>
        rw [if_neg (by omega)]
        exact (Hr3.out i r hi).keepS kF (fun _ _ _ h => h) (fun _ h _ => h)
end
end Go.Proofs.YtijbhmledmnifaaGreatDoor

/-
  Contracts of the reference for layer 4, the fifth part: free.
-/
namespace Go.Proofs.YtijbhmledmnifaaGreatDoor
open Go.RowKit
set_option maxRecDepth 100000
set_option maxHeartbeats 1000000
def RFreeEnd (S : Nat → Prop) (w : World) (d : Nds) (room id : Int) (e : Ending) (w' : World) : Prop :=
  ∃ p' c' d', e = .returned (refV p' c' d' room) ∧ RefAt S w' p' c' d' ∧ Keeps NoB w w' ∧ Kills d d' ∧ ¬ Garb d' id ∧ ∀ j, Garb d' j → Garb d j
def RFree (n : Nat) : Prop := ∀ S w p c d room id, count d = n → RefAt S w p c d → (∀ g, w.heap.size ≤ g → S g) → DInv d → smallD d → 0 ≤ id → id.toNat < d.length →
  Calls Tryz.prog 197 #[refV p c d room, .int .i64 id] w (RFreeEnd S w d room id)
theorem Kills.garb {d d' : Nds} {i : Int} (h : Garb d i) (k : Kills d d') (hh : has d' i) : Garb d' i := by
  induction k with
  | refl => exact h
  | step j hj _ ih =>
    by_cases e : i = j
    · subst e
      have := (Kills.was ‹_› hh).1
      exact absurd rfl ((has_kill hj.1).1 this).1
    · exact ih (h.other hj.1 e) hh
theorem garb_kill {d : Nds} {i j : Int} (hi : has d i) (h : Garb (kill d i) j) : Garb d j ∨ ∃ e ∈ (nd d i).ents, e.2 = j := by
  obtain ⟨h1, h2, h3⟩ := h
  obtain ⟨h4, h5⟩ := (has_kill hi).1 h1
  rw [nd_kill hi, if_neg h4] at h3
  by_cases hn : namesOf j (nd d i) = 0
  · have := links_kill hi j
    exact .inl ⟨h5, by omega, h3⟩
  · exact .inr (namesOf_pos.1 (by omega))
theorem smallD_kills {d d' : Nds} (k : Kills d d') (h : smallD d) : smallD d' := by
  have := k.mass
  unfold smallD at *
  omega
structure RFirst (d d1 : Nds) (k : Nat) (es : List Ent) : Prop where
  kills : Kills d d1
  garb : ∀ j, Garb d1 j → Garb d j ∨ ∃ e ∈ es, e.2 = j
  gone : ¬ has d1 k
  less : es ≠ [] → count d1 < count d
  inv : DInv d1
  small : smallD d1
  range : ∀ e ∈ es, 0 ≤ e.2 ∧ e.2.toNat < d.length
theorem rfree_facts {d : Nds} {k : Nat} (hI : DInv d) (hs : smallD d) (h1 : links d (k : Int) = 0) (h2 : (nd d (k : Int)).holds = 0) : RFirst d (kill d (k : Int)) k (nd d (k : Int)).ents := by
  have hrange : ∀ e ∈ (nd d (k : Int)).ents, 0 ≤ e.2 ∧ e.2.toNat < d.length := fun e he => has_range (hI.tgt k e he).1
  by_cases hi : has d (k : Int)
  · have hg : Garb d (k : Int) := ⟨hi, h1, h2⟩
    refine ⟨.one hg, fun j hj => garb_kill hi hj, fun h => ((has_kill hi).1 h).1 rfl, fun _ => by have := count_kill hi; omega, hI.kill hg, smallD_kills (.one hg) hs, hrange⟩
  · have hgone := (hI.node k).gone (not_has hi)
    have he : kill d (k : Int) = d := by
      refine Nds.ext (kill_length _ _) fun j => ?_
      by_cases hk : k < d.length
      · unfold kill
        rw [nd_upd (by omega) (by omega)]
        split
        · next e => rw [e, hgone]
        · rfl
      · unfold kill upd
        rw [if_pos (by omega), List.set_eq_of_length_le (by omega)]
    rw [he]
    refine ⟨.refl d, fun j hj => .inl hj, hi, fun h => ?_, hI, hs, hrange⟩
    rw [hgone] at h
    exact absurd rfl h
theorem r4gone_any {S : Nat → Prop} {w : World} {p : Option Addr} {c : Nat} {d : Nds} {room : Int} (h : RefAt S w p c d) (hS : ∀ g, w.heap.size ≤ g → S g) (k : Nat) (hk : k < d.length) (hl : d.length ≤ 4294967296) :
    Calls Tryz.prog 168 #[refV p c d room, .int .i64 k, .agg #[.int .i64 0, .int .i64 0, .int .i64 0, .string ⟨#[]⟩, .slice none 0 0]] w fun e w' => ∃ v', e = .returned v' ∧ IsRef S w' v' (kill d k) room ∧ Keeps NoB w w' :=
  r4put_any h hS k hk hl Nd.gone none 0 ((Sl.nil encEnt S w).at')
def But2 (S : Nat → Prop) (w : World) : Nat → Prop := fun b => S b ∧ b ≠ w.heap.size ∧ b ≠ w.heap.size + 1
structure FJ (S : Nat → Prop) (w wr : World) (d d1 : Nds) (room : Int) (es : List Ent) (t : Nat) (p : Option Addr) (c : Nat) (dt : Nds) : Prop where
  A0 : wr.cell? ⟨w.heap.size, 0, none⟩ = some (.slice p d.length c)
  A1 : wr.cell? ⟨w.heap.size, 1, none⟩ = some (.int .i64 room)
  C0 : wr.cell? ⟨w.heap.size + 1, 0, none⟩ = some (.slice none 0 0)
  C1 : wr.cell? ⟨w.heap.size + 1, 1, none⟩ = some (.int .i64 0)
  zA : ∀ j, wr.frozen? ⟨w.heap.size, j, none⟩ = false
  zC : ∀ j, wr.frozen? ⟨w.heap.size + 1, j, none⟩ = false
  ref : RefAt (But2 S w) wr p c dt
  kills : Kills d1 dt
  garb : ∀ j, Garb dt j → Garb d j ∨ ∃ e ∈ es.drop t, e.2 = j
  keeps : Keeps NoB w wr
theorem fj_set {S : Nat → Prop} {w wr : World} {d d1 : Nds} {room : Int} {es : List Ent} {t : Nat} {p : Option Addr} {c : Nat} {dt : Nds} {v0 v1 : Value}
    (A0 : wr.cell? ⟨w.heap.size, 0, none⟩ = some v0) (A1 : wr.cell? ⟨w.heap.size, 1, none⟩ = some v1) (C0 : wr.cell? ⟨w.heap.size + 1, 0, none⟩ = some (.slice none 0 0)) (C1 : wr.cell? ⟨w.heap.size + 1, 1, none⟩ = some (.int .i64 0))
    (zA : ∀ j, wr.frozen? ⟨w.heap.size, j, none⟩ = false) (zC : ∀ j, wr.frozen? ⟨w.heap.size + 1, j, none⟩ = false) (ref : RefAt (But2 S w) wr p c dt) (kills : Kills d1 dt) (garb : ∀ j, Garb dt j → Garb d j ∨ ∃ e ∈ es.drop t, e.2 = j) (keeps : Keeps NoB w wr) :
    FJ S w ((wr.setCell ⟨w.heap.size, 0, none⟩ (.slice p d.length c)).setCell ⟨w.heap.size, 1, none⟩ (.int .i64 room)) d d1 room es t p c dt := by
  have kk : Keeps (fun b => b = w.heap.size) wr ((wr.setCell ⟨w.heap.size, 0, none⟩ (.slice p d.length c)).setCell ⟨w.heap.size, 1, none⟩ (.int .i64 room)) := (keeps_set wr ⟨w.heap.size, 0, none⟩ _).trans (keeps_set _ ⟨w.heap.size, 1, none⟩ _)
  have hC := lt_of_cell C0
  have b0 := cell_set (k := 1) (u := .int .i64 room) (cell_set (k := 0) (u := .slice p d.length c) A0)
  have b1 := cell_set (k := 1) (u := .int .i64 room) (cell_set (k := 0) (u := .slice p d.length c) A1)
  refine ⟨b0, b1, (kk.cell (p := ⟨w.heap.size + 1, 0, none⟩) hC (by simp)).trans C0, (kk.cell (p := ⟨w.heap.size + 1, 1, none⟩) hC (by simp)).trans C1, fun j => ?_, fun j => (kk.frozen (p := ⟨w.heap.size + 1, j, none⟩) hC (by simp)).trans (zC j),
    ref.keepS kk (fun g hg _ e => hg.2.1 e) (fun g hg _ => hg), kills, garb, keeps.step kk (fun g hg => .inr (by omega))⟩
  exact (frozen_set _ _ _ _).trans ((frozen_set _ _ _ _).trans (zA j))
theorem fj_next {S : Nat → Prop} {w wr wx w4 : World} {d d1 : Nds} {room : Int} {es : List Ent} {t : Nat} {p : Option Addr} {c : Nat} {dt : Nds} (J : FJ S w wr d d1 room es t p c dt) (hkx : Keeps NoB wr wx) (hk4 : Keeps NoB wx w4) :
    w4.cell? ⟨w.heap.size, 0, none⟩ = some (.slice p d.length c) ∧ w4.cell? ⟨w.heap.size, 1, none⟩ = some (.int .i64 room) ∧ w4.cell? ⟨w.heap.size + 1, 0, none⟩ = some (.slice none 0 0) ∧ w4.cell? ⟨w.heap.size + 1, 1, none⟩ = some (.int .i64 0) ∧
    (∀ j, w4.frozen? ⟨w.heap.size, j, none⟩ = false) ∧ (∀ j, w4.frozen? ⟨w.heap.size + 1, j, none⟩ = false) := by
  have k := hkx.trans hk4
  have l1 := lt_of_cell J.A0
  have l2 := lt_of_cell J.C0
  exact ⟨(k.cell (p := ⟨w.heap.size, 0, none⟩) l1 (fun h => h)).trans J.A0, (k.cell (p := ⟨w.heap.size, 1, none⟩) l1 (fun h => h)).trans J.A1, (k.cell (p := ⟨w.heap.size + 1, 0, none⟩) l2 (fun h => h)).trans J.C0, (k.cell (p := ⟨w.heap.size + 1, 1, none⟩) l2 (fun h => h)).trans J.C1,
    fun j => (k.frozen (p := ⟨w.heap.size, j, none⟩) l1 (fun h => h)).trans (J.zA j), fun j => (k.frozen (p := ⟨w.heap.size + 1, j, none⟩) l2 (fun h => h)).trans (J.zC j)⟩
theorem rfree_call {n : Nat} (ih : ∀ m, m < n → RFree m) {S : Nat → Prop} {w wr : World} {d : Nds} {k : Nat} {room : Int} {es : List Ent} {t : Nat} {p : Option Addr} {c : Nat} {dt : Nds} {x : Ent} (hn : count d = n) (F : RFirst d (kill d (k : Int)) k es)
    (J : FJ S w wr d (kill d (k : Int)) room es t p c dt) (hS : ∀ g, w.heap.size ≤ g → S g) (hx : es[t]? = some x) (hk : k < d.length) : ∀ wx, Keeps NoB wr wx →
    Calls Tryz.prog 197 #[.agg #[.slice p d.length c, .int .i64 room], .int .i64 x.2] wx fun e w' => ∃ p' c' d', e = .returned (.agg #[.slice p' d.length c', .int .i64 room]) ∧ RefAt (But2 S w) w' p' c' d' ∧ Keeps NoB wx w' ∧ Kills (kill d (k : Int)) d' ∧
      ∀ j, Garb d' j → Garb d j ∨ ∃ e ∈ es.drop (t + 1), e.2 = j := fun wx hkx => by
  have hmem := List.mem_of_getElem? hx
  have hlen : dt.length = d.length := by rw [J.kills.length, kill_length]
  have hne : es ≠ [] := fun e => by subst e; cases hmem
  have hc : count dt < n := by have := J.kills.count_le; have := F.less hne; omega
  have hsz := lt_of_cell J.C0
  have hr := F.range x hmem
  have hcall := ih _ hc (But2 S w) wx p c dt room x.2 rfl (J.ref.keepN hkx) (fun g hg => by
    have := hkx.size
    simp only at hsz
    exact ⟨hS g (by omega), by omega, by omega⟩) (F.inv.kills J.kills) (smallD_kills J.kills F.small) hr.1 (by omega)
  unfold refV at hcall
  rw [hlen] at hcall
  refine hcall.mono ?_
  rintro e w' ⟨p', c', d', he, h1, h2, h3, h4, h5⟩
  refine ⟨p', c', d', ?_, h1, h2, J.kills.trans h3, fun j hj => ?_⟩
  · rw [he]; unfold refV; rw [h3.length, hlen]
  · rcases J.garb j (h5 j hj) with h | ⟨e, h6, h7⟩
    · exact .inl h
    · right
      have hd : es.drop t = x :: es.drop (t + 1) := by
        obtain ⟨hl, he⟩ := List.getElem?_eq_some_iff.1 hx
        rw [← he]; exact List.drop_eq_getElem_cons hl
      rw [hd] at h6
      rcases List.mem_cons.1 h6 with rfl | h6
      · subst h7; exact absurd hj h4
      · exact ⟨e, h6, h7⟩
theorem rfree_step (n : Nat) (ih : ∀ m, m < n → RFree m) : RFree n := by
  intro S w p c d room id hn h hS hI hs h0 hlt
  have hcap := h.cap
  have hmax := h.max
  unfold maxLen at hmax
  have hz := hI.zero
  have h2 := hI.two
  have hal : Keeps NoB w ((w.alloc (.cells #[.slice p d.length c, .int .i64 room] 35)).alloc (.cells #[.slice none 0 0, .int .i64 0] 35)) := ((Keeps.refl _ _).alloc _).alloc _
  have hlk := r4links_any (room := room) (h.keepN hal) hz (by omega) hs id
  obtain ⟨k, rfl⟩ : ∃ k : Nat, id = (k : Int) := ⟨id.toNat, by omega⟩
  have hk : k < d.length := by omega
  obtain ⟨g, off, q, m, rfl, hSg, hrow⟩ := h.rowAt hk
  have HR := Lib.hid (fun (w1 : World) (hk1 : Keeps NoB w w1) => hrow.keepN hk1)
  have hbx := Lib.hid (fun (w1 : World) (hk1 : Keeps NoB ((w.alloc (.cells #[.slice (some ⟨g, off, none⟩) d.length c, .int .i64 room] 35)).alloc (.cells #[.slice none 0 0, .int .i64 0] 35)) w1) => boxes2 hk1)
  have HA := Lib.hid hal
  have Hh := Lib.hid h
  have HI := Lib.hid hI
  have Hsm := Lib.hid hs
  by_cases hg : links d (k : Int) = 0 ∧ (nd d (k : Int)).holds = 0
  case neg =>
    have hend : Hid (∀ w', Keeps NoB w w' → RFreeEnd S w d room k (.returned (refV (some ⟨g, off, none⟩) c d room)) w') := fun w' hk' => ⟨_, _, d, rfl, Hh.out.keepN hk', hk', .refl d, fun hgb => hg ⟨hgb.2.1, hgb.2.2⟩, fun _ h => h⟩
    have hcase : (0 : Int) < (links d (k : Int) : Int) ∨ ((links d (k : Int) : Int) = 0 ∧ 0 < (nd d (k : Int)).holds) := by
      have h1 := (hI.node k).holds
      by_cases h2 : links d (k : Int) = 0
      · exact .inr ⟨by omega, by have : ¬ (nd d (k : Int)).holds = 0 := fun e => hg ⟨h2, e⟩; omega⟩
      · exact .inl (by omega)
    unfold refV at *
    have hlk' := hlk
    clear hlk
    generalize (links d (k : Int) : Int) = lks at *
    have HL := Lib.hid hlk'
    clear hlk' hrow h hI hs hz h2 hn ih hg hal
    rcases hcase with h1 | ⟨rfl, h1⟩
    all_goals
      go_enter Tryz.func197, Tryz.ntmps197
      go_wp2_with (go_at_call 69; refine HL.out.mono ?_; rintro e w1 ⟨rfl, hk1⟩; obtain ⟨a1, a2, z1, z2, z3⟩ := hbx.out w1 hk1; have A0 : w1.cell? ⟨w.heap.size, 0, none⟩ = some (.slice (some ⟨g, off, none⟩) d.length c) := a1 0 _ rfl; have A1 : w1.cell? ⟨w.heap.size, 1, none⟩ = some (.int .i64 room) := a1 1 _ rfl; have C0 : w1.cell? ⟨w.heap.size + 1, 0, none⟩ = some (.slice none 0 0) := a2 0 _ rfl; have C1 : w1.cell? ⟨w.heap.size + 1, 1, none⟩ = some (.int .i64 0) := a2 1 _ rfl; have hkw := HA.out.trans hk1; have hr1 := HR.out w1 hkw; have R2 := hr1.c2; have R4 := hr1.c4; have hgl := hr1.lt; have HKW := Lib.hid hkw; clear a1 a2 hkw hr1 hk1)
      (try simp only [Exit.inBlock, Exit.then])
      refine bodyPost_ret (v := .agg #[.slice (some ⟨g, off, none⟩) d.length c, .int .i64 room]) ?_ rfl ?_
      · rw [results_cell_one rfl]
        go_simp
      · exact hend.out _ ((HKW.out.setCell (p := ⟨w.heap.size + 1, 0, none⟩) (.inr (by simp)) _).setCell (p := ⟨w.heap.size + 1, 1, none⟩) (.inr (by simp)) _)
  case pos =>
    obtain ⟨hg1, hg2⟩ := hg
    rw [hg1] at hlk
    have F := rfree_facts hI hs hg1 hg2
    have hput := Lib.hid (fun (w1 : World) (hk1 : Keeps NoB w w1) (hsz : w.heap.size + 2 ≤ w1.heap.size) => r4gone_any (S := But2 S w) (room := room) (h.keepS hk1 (fun _ _ _ h => h) (fun g hg hl => ⟨hg, by omega, by omega⟩)) (fun g hg => ⟨hS g (by omega), by omega, by omega⟩) k hk (by have := mass_ge d; unfold smallD at hs; omega))
    have HF := Lib.hid F
    have HSl := Lib.hid (fun (w1 : World) (hk1 : Keeps NoB w w1) => (hrow.keepN hk1).sl)
    have hel := nd_ents_len hs (k : Int)
    have hcap2 := hrow.sl.cap
    have hmax2 := hrow.sl.max
    have hhz := hrow.c2
    rw [hg2] at hhz
    have HR2 := Lib.hid (fun (w1 : World) (hk1 : Keeps NoB w w1) => (⟨(hk1.cell (p := ⟨g, _, none⟩) hrow.lt (fun h => h)).trans hhz, (hrow.keepN hk1).c4, (hrow.keepN hk1).lt⟩ : _ ∧ _ ∧ _))
    unfold maxLen at hmax2
    unfold refV at *
    have HL := Lib.hid hlk
    have HS := Lib.hid hS
    have Hih := Lib.hid ih
    have Hn := Lib.hid hn
    have HG := Lib.hid (⟨hg1, hg2⟩ : _ ∧ _)
    clear hlk hrow h hI hs hz h2 hn ih hg1 hg2 hal F hS hhz HR
    generalize hes : (nd d (k : Int)).ents = es at *
    go_enter Tryz.func197, Tryz.ntmps197
    go_wp2_with (first | (go_at_call 69; refine HL.out.mono ?_; rintro e w1 ⟨rfl, hk1⟩; obtain ⟨a1, a2, z1, z2, z3⟩ := hbx.out w1 hk1; have A0 : w1.cell? ⟨w.heap.size, 0, none⟩ = some (.slice (some ⟨g, off, none⟩) d.length c) := a1 0 _ rfl; have A1 : w1.cell? ⟨w.heap.size, 1, none⟩ = some (.int .i64 room) := a1 1 _ rfl; have hkw := HA.out.trans hk1; obtain ⟨R2, R4, hgl⟩ := HR2.out w1 hkw; have HKW := Lib.hid hkw; have HK1 := Lib.hid hk1; clear a1 a2 hkw hk1) | (go_at_call 168; go_loud (refine (hput.out _ HKW.out z3).mono ?_); rintro e w2 ⟨v', rfl, href, hk2⟩; obtain ⟨p1, c1, hv, href⟩ := href; unfold refV at hv; rw [kill_length] at hv; subst hv; obtain ⟨a1, a2, y1, y2, y3⟩ := hbx.out w2 (HK1.out.trans hk2); have A2 : w2.cell? ⟨w.heap.size, 0, none⟩ = some (.slice (some ⟨g, off, none⟩) d.length c) := a1 0 _ rfl; have A3 : w2.cell? ⟨w.heap.size, 1, none⟩ = some (.int .i64 room) := a1 1 _ rfl; have C2 : w2.cell? ⟨w.heap.size + 1, 0, none⟩ = some (.slice none 0 0) := a2 0 _ rfl; have C3 : w2.cell? ⟨w.heap.size + 1, 1, none⟩ = some (.int .i64 0) := a2 1 _ rfl; have HKW2 := Lib.hid (HKW.out.trans hk2); have HRef := Lib.hid href; clear a1 a2 hk2 href))
    have hJ := fj_set (room := room) (es := es) (t := 0) A2 A3 C2 C3 y1 y2 HRef.out (.refl _) HF.out.garb HKW2.out
    have HJ := Lib.hid hJ
    clear hJ A0 A1 A2 A3 C2 C3 y1 y2 y3 z1 z2 z3 R2 R4 hgl HRef HKW2 HKW HK1 hput HL hbx
    generalize (w2.setCell ⟨w.heap.size, 0, none⟩ (.slice p1 d.length c1)).setCell ⟨w.heap.size, 1, none⟩ (.int .i64 room) = w3 at *
    go_loopw [6] (fun x wr => ∃ (t : Nat) (pt : Option Addr) (ct : Nat) (dt : Nds), t ≤ es.length ∧ x = .int .i64 t ∧ FJ S w wr d (kill d k) room es t pt ct dt) (fun x _ => es.length - (intOf x).toNat)
    case atStart => exact ⟨0, _, _, _, Nat.zero_le _, rfl, HJ.out⟩
    case round =>
      rename_i wr
      obtain ⟨t, pt, ct, dt, ht, rfl, hJ⟩ := hrel
      have A0 := hJ.A0
      have A1 := hJ.A1
      have C0 := hJ.C0
      have C1 := hJ.C1
      have zA := hJ.zA
      have zC := hJ.zC
      have HJt := Lib.hid hJ
      have hsz := lt_of_cell C0
      clear hJ HJ
      by_cases hlt : t < es.length
      · obtain ⟨x, hx⟩ : ∃ x, es[t]? = some x := ⟨_, List.getElem?_eq_getElem hlt⟩
        obtain ⟨g2, off2, rfl, _, hg2, e0, e1⟩ := (HSl.out wr HJt.out.keeps).ent hx
        have hcall := rfree_call Hih.out Hn.out HF.out HJt.out HS.out hx (by omega) (room := room)
        have HC := Lib.hid hcall
        clear hcall hx
        unfold refV at HC
        have HJ2 := Lib.hid (fun (wx w4 : World) (hkx : Keeps NoB wr wx) (hk4 : Keeps NoB wx w4) => fj_next HJt.out hkx hk4 (room := room))
        clear HSl HR2
        go_wp2
        go_region_with (go_at_call 197; refine (HC.out _ ?_).mono ?_; (first | exact Keeps.refl _ _ | exact (Keeps.refl _ _).drew | exact ((Keeps.refl _ _).drew).drew); rintro e w4 ⟨p4, c4, d4, rfl, hr4, hk4, hkl4, hg4⟩; obtain ⟨A4, A5, C4, C5, y1, y2⟩ := HJ2.out _ w4 (by first | exact Keeps.refl _ _ | exact (Keeps.refl _ _).drew) hk4)
        all_goals
          go_wp2_with fail
          go_roundw
          case rel => exact ⟨t + 1, p4, c4, d4, by omega, by go_num, fj_set A4 A5 C4 C5 y1 y2 hr4 hkl4 hg4 (by first | exact HJt.out.keeps.trans hk4 | exact (HJt.out.keeps.drew).trans hk4)⟩
          case measure => simp [intOf]; omega
      · have hd : es.drop t = [] := List.drop_of_length_le (by omega)
        have HD := Lib.hid hd
        clear hd HSl HR2
        go_wp2
        (try simp only [Exit.inBlock, Exit.then])
        refine bodyPost_ret (v := .agg #[.slice pt d.length ct, .int .i64 room]) ?_ rfl ?_
        · rw [results_cell_one rfl]
          go_simp
        · have J := HJt.out
          have hlen : dt.length = d.length := by rw [J.kills.length, kill_length]
          have kk : Keeps (fun b => b = w.heap.size + 1) wr ((wr.setCell ⟨w.heap.size + 1, 0, none⟩ (.slice pt d.length ct)).setCell ⟨w.heap.size + 1, 1, none⟩ (.int .i64 room)) := (keeps_set wr ⟨w.heap.size + 1, 0, none⟩ _).trans (keeps_set _ ⟨w.heap.size + 1, 1, none⟩ _)
          refine ⟨pt, ct, dt, by unfold refV; rw [hlen], J.ref.keepS kk (fun b hb _ e => hb.2.2 e) (fun b hb _ => hb.1), J.keeps.step kk (fun b hb => .inr (by omega)), HF.out.kills.trans J.kills, fun hgb => HF.out.gone (J.kills.was hgb.1).1, fun j hj => ?_⟩
          rcases J.garb j hj with h | ⟨e, h6, _⟩
          · exact h
          · rw [HD.out] at h6; cases h6
theorem rfree_ok (n : Nat) : RFree n := by
  induction n using Nat.strongRecOn with
  | ind n ih => exact rfree_step n ih
theorem r4free_any {S : Nat → Prop} {w : World} {p : Option Addr} {c : Nat} {d : Nds} {room : Int} (h : RefAt S w p c d) (hS : ∀ g, w.heap.size ≤ g → S g) (hI : DInv d) (hs : smallD d) (id : Int) (hid : has d id) (hg : ∀ j, Garb d j → j = id) :
    Calls Tryz.prog 197 #[refV p c d room, .int .i64 id] w fun e w' => ∃ p' c', e = .returned (refV p' c' (gc d) room) ∧ RefAt S w' p' c' (gc d) ∧ Keeps NoB w w' := by
  have hr := has_range hid
  refine (rfree_ok _ S w p c d room id rfl h hS hI hs hr.1 hr.2).mono ?_
  rintro e w' ⟨p', c', d', rfl, h1, h2, h3, h4, h5⟩
  have hn : NoGarb d' := fun j hj => by
    have := hg j (h5 j hj)
    subst this
    exact h4 hj
  rw [gc_eq h3 hn]
  exact ⟨p', c', rfl, h1, h2⟩
end Go.Proofs.YtijbhmledmnifaaGreatDoor

/-
  Contracts of the reference for layer 4, the sixth part: New, Hold, Chmod, Empty.
-/
namespace Go.Proofs.YtijbhmledmnifaaGreatDoor
open Go.RowKit
set_option maxRecDepth 100000
set_option maxHeartbeats 1000000
structure RBox (w w1 : World) (p : Option Addr) (n c : Nat) (room : Int) : Prop where
  A0 : w1.cell? ⟨w.heap.size, 0, none⟩ = some (.slice p n c)
  A1 : w1.cell? ⟨w.heap.size, 1, none⟩ = some (.int .i64 room)
  C0 : w1.cell? ⟨w.heap.size + 1, 0, none⟩ = some (.slice none 0 0)
  C1 : w1.cell? ⟨w.heap.size + 1, 1, none⟩ = some (.int .i64 0)
  zA : ∀ j, w1.frozen? ⟨w.heap.size, j, none⟩ = false
  zC : ∀ j, w1.frozen? ⟨w.heap.size + 1, j, none⟩ = false
  size : w.heap.size + 2 ≤ w1.heap.size
  keeps : Keeps NoB w w1
theorem rbox {w w1 : World} {p : Option Addr} {n c : Nat} {room : Int} {t1 t2 : TypeId} (hk : Keeps NoB ((w.alloc (.cells #[.slice p n c, .int .i64 room] t1)).alloc (.cells #[.slice none 0 0, .int .i64 0] t2)) w1) : RBox w w1 p n c room := by
  obtain ⟨a1, a2, z1, z2, z3⟩ := boxes2 hk
  exact ⟨a1 0 _ rfl, a1 1 _ rfl, a2 0 _ rfl, a2 1 _ rfl, z1, z2, z3, (((Keeps.refl NoB w).alloc _).alloc _).trans hk⟩
theorem RBox.on {w w1 w2 : World} {p : Option Addr} {n c : Nat} {room : Int} (h : RBox w w1 p n c room) (k : Keeps NoB w1 w2) : RBox w w2 p n c room := by
  have l1 := lt_of_cell h.A0
  have l2 := lt_of_cell h.C0
  have := k.size
  exact ⟨(k.cell (p := ⟨w.heap.size, 0, none⟩) l1 (fun h => h)).trans h.A0, (k.cell (p := ⟨w.heap.size, 1, none⟩) l1 (fun h => h)).trans h.A1, (k.cell (p := ⟨w.heap.size + 1, 0, none⟩) l2 (fun h => h)).trans h.C0, (k.cell (p := ⟨w.heap.size + 1, 1, none⟩) l2 (fun h => h)).trans h.C1,
    fun j => (k.frozen (p := ⟨w.heap.size, j, none⟩) l1 (fun h => h)).trans (h.zA j), fun j => (k.frozen (p := ⟨w.heap.size + 1, j, none⟩) l2 (fun h => h)).trans (h.zC j), by have := h.size; omega, h.keeps.trans k⟩
def RTo (S : Nat → Prop) (w : World) (d' : Nds) (room err : Int) (e : Ending) (w' : World) : Prop :=
  ∃ p' c', e = .returned (.tuple #[refV p' c' d' room, .int .i64 err]) ∧ RefAt S w' p' c' d' ∧ Keeps NoB w w'
section
variable {S : Nat → Prop} {w : World} {p : Option Addr} {c : Nat} {d : Nds} {room : Int}
theorem RefAt.but2 (h : RefAt S w p c d) {w1 : World} (hk : Keeps NoB w w1) : RefAt (But2 S w) w1 p c d := h.keepS hk (fun _ _ _ h => h) (fun g hg hl => ⟨hg, by omega, by omega⟩)
theorem but2_new (hS : ∀ g, w.heap.size ≤ g → S g) {w1 : World} (hk : w.heap.size + 2 ≤ w1.heap.size) : ∀ g, w1.heap.size ≤ g → But2 S w g := fun g hg => ⟨hS g (by omega), by omega, by omega⟩
theorem rto_store {w1 : World} {p' : Option Addr} {c' : Nat} {d' : Nds} {err : Int} (h : RefAt (But2 S w) w1 p' c' d') (k : Keeps NoB w w1) (v0 v1 : Value) :
    RTo S w d' room err (.returned (.tuple #[refV p' c' d' room, .int .i64 err])) ((w1.setCell ⟨w.heap.size + 1, 0, none⟩ v0).setCell ⟨w.heap.size + 1, 1, none⟩ v1) := by
  have kk : Keeps (fun b => b = w.heap.size + 1) w1 ((w1.setCell ⟨w.heap.size + 1, 0, none⟩ v0).setCell ⟨w.heap.size + 1, 1, none⟩ v1) := (keeps_set w1 ⟨w.heap.size + 1, 0, none⟩ _).trans (keeps_set _ ⟨w.heap.size + 1, 1, none⟩ _)
  exact ⟨_, _, rfl, h.keepS kk (fun b hb _ e => hb.2.2 e) (fun b hb _ => hb.1), k.step kk (fun b hb => .inr (by omega))⟩
def holdBy (d : Nds) (i b : Int) : Nds := upd d i ((nd d i).setHolds ((nd d i).holds + b))
def holdErr (d : Nds) (i b : Int) : Int := if has d i ∧ (0 ≤ b ∨ (nd d i).holds ≠ 0) then 0 else 12
theorem r4hold_any (h : RefAt S w p c d) (hS : ∀ g, w.heap.size ≤ g → S g) (hI : DInv d) (hcl : NoGarb d) (hs : mass d + 1 ≤ 2147483648) (i b : Int) (hb : b = 1 ∨ b = -1) :
    Calls Tryz.prog 142 #[refV p c d room, .int .i64 i, .int .i64 b] w (RTo S w (if holdErr d i b = 0 then gc (holdBy d i b) else d) room (holdErr d i b)) := by
  have hcap := h.cap
  have hmax := h.max
  unfold maxLen at hmax
  have hal : Keeps NoB w ((w.alloc (.cells #[.slice p d.length c, .int .i64 room] 35)).alloc (.cells #[.slice none 0 0, .int .i64 0] 35)) := ((Keeps.refl _ _).alloc _).alloc _
  have hh := r4has_any (room := room) (h.keepN hal) hI.zero i
  have hsm : smallD d := by unfold smallD; omega
  by_cases hi : has d i
  case neg =>
    have e : holdErr d i b = 12 := if_neg (fun h => hi h.1)
    rw [e, if_neg (by decide)]
    rw [decide_eq_false hi] at hh
    have HH := Lib.hid hh
    have Hh := Lib.hid (fun (w1 : World) (hk : Keeps NoB w w1) => h.but2 hk)
    clear hh h hS hI hcl hs hi hal e hb hsm
    unfold refV at *
    go_enter Tryz.func142, Tryz.ntmps142
    go_wp2_with (go_at_call 68; refine HH.out.mono ?_; rintro e w1 ⟨rfl, hk1⟩; have B := rbox hk1; have A0 := B.A0; have A1 := B.A1; have C0 := B.C0; have C1 := B.C1; have zA := B.zA; have zC := B.zC)
    (try simp only [Exit.inBlock, Exit.then])
    refine bodyPost_ret (v := .tuple #[.agg #[.slice p d.length c, .int .i64 room], .int .i64 12]) ?_ rfl ?_
    · rw [results_cell_tmp rfl]
      go_simp
    · exact rto_store (Hh.out _ B.keeps) B.keeps _ _
  case pos =>
    rw [decide_eq_true hi] at hh
    have hi0 := hi
    obtain ⟨k, rfl, hk⟩ := has_nat hi
    obtain ⟨g, off, q, m, rfl, hSg, hrow⟩ := h.rowAt hk
    have HR := Lib.hid (fun (w1 : World) (hk1 : Keeps NoB w w1) => hrow.keepN hk1)
    have Hh := Lib.hid (fun (w1 : World) (hk : Keeps NoB w w1) => h.but2 hk)
    by_cases hz : b = -1 ∧ (nd d (k : Int)).holds = 0
    · obtain ⟨rfl, hz⟩ := hz
      have e : holdErr d k (-1) = 12 := if_neg (fun h => h.2.elim (by omega) (fun h => h hz))
      rw [e, if_neg (by decide)]
      have HC := Lib.hid (fun (w1 : World) (hk1 : Keeps NoB w w1) => (⟨by rw [← hz]; exact (hrow.keepN hk1).c2, (hrow.keepN hk1).lt⟩ : w1.cell? ⟨g, off + k * 5 + 2, none⟩ = some (.int .i64 0) ∧ g < w1.heap.size))
      have HH := Lib.hid hh
      clear hh h hS hI hcl hs hi hi0 hal e hb hsm hrow hz
      unfold refV at *
      go_enter Tryz.func142, Tryz.ntmps142
      go_wp2_with (go_at_call 68; refine HH.out.mono ?_; rintro e w1 ⟨rfl, hk1⟩; have B := rbox hk1; have A0 := B.A0; have A1 := B.A1; have C0 := B.C0; have C1 := B.C1; have zA := B.zA; have zC := B.zC; obtain ⟨R2, hgl⟩ := HC.out _ B.keeps)
      (try simp only [Exit.inBlock, Exit.then])
      refine bodyPost_ret (v := .tuple #[.agg #[.slice (some ⟨g, off, none⟩) d.length c, .int .i64 room], .int .i64 12]) ?_ rfl ?_
      · rw [results_cell_tmp rfl]
        go_simp
      · exact rto_store (Hh.out _ B.keeps) B.keeps _ _
    · have e : holdErr d k b = 0 := if_pos ⟨hi, by omega⟩
      rw [e, if_pos rfl]
      have hh0 := (hI.node k).holds
      have hhl := holds_le hsm (k : Int)
      have hbb : 0 ≤ (nd d (k : Int)).holds + b := by omega
      have hml := mass_ge d
      have hcond : b < 0 → ((nd d (k : Int)).holds == 0) = false := fun h => by
        have : ¬ (nd d (k : Int)).holds = 0 := fun h0 => hz ⟨by omega, h0⟩
        simpa using this
      have hinv : DInv (holdBy d k b) := hI.upd hi ((hI.node k).setHolds hi hbb) rfl rfl
      have hsm2 : smallD (holdBy d k b) := by
        have := mass_upd (n := (nd d (k : Int)).setHolds ((nd d (k : Int)).holds + b)) hi
        have e : mass1 ((nd d (k : Int)).setHolds ((nd d (k : Int)).holds + b)) ≤ mass1 (nd d (k : Int)) + 1 := by unfold mass1; simp only [Nd.setHolds]; omega
        unfold smallD holdBy
        omega
      have hhas2 : has (holdBy d k b) (k : Int) := (has_upd (n := (nd d (k : Int)).setHolds ((nd d (k : Int)).holds + b)) hi hi k).2 hi
      have hgarb : ∀ j, Garb (holdBy d k b) j → j = (k : Int) := fun j hj => by
        by_cases e : j = (k : Int)
        · exact e
        · have hr := has_range hi
          obtain ⟨p1, p2, p4⟩ := hj
          unfold holdBy at p1 p2 p4
          rw [nd_upd hr.1 hr.2, if_neg e] at p4
          rw [links_same (n := (nd d (k : Int)).setHolds ((nd d (k : Int)).holds + b)) hi rfl] at p2
          exact absurd ⟨(has_upd (n := (nd d (k : Int)).setHolds ((nd d (k : Int)).holds + b)) hi hi j).1 p1, p2, p4⟩ (hcl j)
      have hwr : wrap64 ((nd d (k : Int)).holds + b) = (nd d (k : Int)).holds + b := IntWalk.wrap64_in _ (by omega)
      have hput := fun (w2 : World) (hk2 : Keeps NoB w w2) (hsz : w.heap.size + 2 ≤ w2.heap.size) => r4put_any (S := But2 S w) (room := room) (h.but2 hk2) (but2_new hS hsz) k hk (by omega) ((nd d (k : Int)).setHolds ((nd d (k : Int)).holds + b)) q m (hrow.sl.keepS hk2 (fun _ _ _ h => h) (fun g hg hl => ⟨hg, by omega, by omega⟩))
      have hfree := fun (w3 : World) (p3 : Option Addr) (c3 : Nat) (hr : RefAt (But2 S w) w3 p3 c3 (holdBy d k b)) (hsz : w.heap.size + 2 ≤ w3.heap.size) => r4free_any (room := room) hr (but2_new hS hsz) hinv hsm2 k hhas2 hgarb
      have HP := Lib.hid hput
      have HF := Lib.hid hfree
      have HH := Lib.hid hh
      have hlen : (holdBy d k b).length = d.length := upd_length _ _ _
      unfold refV at *
      rw [hlen] at HF
      have hx0 : ((nd d (k : Int)).setHolds ((nd d (k : Int)).holds + b)).kind = (nd d (k : Int)).kind := rfl
      have hx1 : ((nd d (k : Int)).setHolds ((nd d (k : Int)).holds + b)).mode = (nd d (k : Int)).mode := rfl
      have hx2 : ((nd d (k : Int)).setHolds ((nd d (k : Int)).holds + b)).holds = (nd d (k : Int)).holds + b := rfl
      have hx3 : ((nd d (k : Int)).setHolds ((nd d (k : Int)).holds + b)).data = (nd d (k : Int)).data := rfl
      have hx4 : ((nd d (k : Int)).setHolds ((nd d (k : Int)).holds + b)).ents = (nd d (k : Int)).ents := rfl
      rw [hx0, hx1, hx2, hx3, hx4] at HP
      have hfold : upd d (k : Int) ((nd d (k : Int)).setHolds ((nd d (k : Int)).holds + b)) = holdBy d k b := rfl
      rw [hfold] at HP
      clear hfold
      have HC := Lib.hid (fun (w1 : World) (hk1 : Keeps NoB w w1) => (⟨(hrow.keepN hk1).c0, (hrow.keepN hk1).c1, (hrow.keepN hk1).c2, (hrow.keepN hk1).c3, (hrow.keepN hk1).c4, (hrow.keepN hk1).lt⟩ : _ ∧ _ ∧ _ ∧ _ ∧ _ ∧ _))
      have HL := Lib.hid hlen
      generalize holdBy d k b = dd at *
      clear hh h hS hI hcl hs hi hi0 hal e hsm hrow hz hput hfree hhas2 hgarb hinv hsm2 hml hhl hh0 hbb hlen hx0 hx1 hx2 hx3 hx4 HR
      generalize (nd d (k : Int)).holds = hd at *
      generalize (nd d (k : Int)).ents.length = en at *
      rcases hb with rfl | rfl
      all_goals
        go_enter Tryz.func142, Tryz.ntmps142
        go_wp2_with (first | (go_at_call 68; refine HH.out.mono ?_; rintro e w1 ⟨rfl, hk1⟩; have B := rbox hk1; have A0 := B.A0; have A1 := B.A1; have C0 := B.C0; have C1 := B.C1; have zA := B.zA; have zC := B.zC; obtain ⟨R0, R1, R2, R3, R4, hgl⟩ := HC.out _ B.keeps; have l0 : w.heap.size < w1.heap.size := Nat.lt_of_lt_of_le (by simp) B.size; have l1 : w.heap.size + 1 < w1.heap.size := B.size) | (go_at_call 168; go_loud (refine (HP.out _ (B.keeps.alloc _) (Nat.le_trans B.size (by simp))).mono ?_); rintro e w3 ⟨v', rfl, href, hk3⟩; obtain ⟨p3, c3, hv, href⟩ := href; have B3 := (B.on ((Keeps.refl NoB _).alloc _)).on hk3; unfold refV at hv; rw [HL.out] at hv; subst hv) | (go_at_call 197; go_loud (refine (HF.out _ _ _ href B3.size).mono ?_); rintro e w4 ⟨p4, c4, rfl, hr4, hk4⟩; have B4 := B3.on hk4; have D0 := B4.C0; have D1 := B4.C1; have zD := B4.zC))
        (try simp only [Exit.inBlock, Exit.then])
        refine bodyPost_ret (v := .tuple #[.agg #[.slice p4 (gc dd).length c4, .int .i64 room], .int .i64 0]) ?_ rfl ?_
        · rw [results_cell_tmp rfl]
          go_simp
        · exact rto_store hr4 B4.keeps _ _
theorem r4chmod_any (h : RefAt S w p c d) (hS : ∀ g, w.heap.size ≤ g → S g) (hI : DInv d) (hs : smallD d) (i x : Int) :
    Calls Tryz.prog 110 #[refV p c d room, .int .i64 i, .int .i64 x] w (RTo S w (if chmodErr d i x = 0 then chmodTo d i x else d) room (chmodErr d i x)) := by
  have hcap := h.cap
  have hmax := h.max
  unfold maxLen at hmax
  have hal : Keeps NoB w ((w.alloc (.cells #[.slice p d.length c, .int .i64 room] 35)).alloc (.cells #[.slice none 0 0, .int .i64 0] 35)) := ((Keeps.refl _ _).alloc _).alloc _
  have hh := r4has_any (room := room) (h.keepN hal) hI.zero i
  by_cases hi : has d i
  case neg =>
    have e : chmodErr d i x = 12 := if_pos (not_has hi)
    rw [e, if_neg (by decide)]
    rw [decide_eq_false hi] at hh
    have HH := Lib.hid hh
    have Hh := Lib.hid (fun (w1 : World) (hk : Keeps NoB w w1) => h.but2 hk)
    clear hh h hS hI hs hi hal e
    unfold refV at *
    go_enter Tryz.func110, Tryz.ntmps110
    go_wp2_with (go_at_call 68; refine HH.out.mono ?_; rintro e w1 ⟨rfl, hk1⟩; have B := rbox hk1; have A0 := B.A0; have A1 := B.A1; have C0 := B.C0; have C1 := B.C1; have zA := B.zA; have zC := B.zC)
    (try simp only [Exit.inBlock, Exit.then])
    refine bodyPost_ret (v := .tuple #[.agg #[.slice p d.length c, .int .i64 room], .int .i64 12]) ?_ rfl ?_
    · rw [results_cell_tmp rfl]
      go_simp
    · exact rto_store (Hh.out _ B.keeps) B.keeps _ _
  case pos =>
    rw [decide_eq_true hi] at hh
    have hi0 : ¬ (nd d i).kind = 0 := hi
    have HH := Lib.hid hh
    by_cases hx : okMode x = true
    case neg =>
      have e : chmodErr d i x = 10 := by unfold chmodErr; rw [if_neg hi0, if_neg hx]
      rw [e, if_neg (by decide)]
      have hx' : x < 0 ∨ (¬ x < 0 ∧ 4095 < x) := by simp [okMode] at hx; omega
      have Hh := Lib.hid (fun (w1 : World) (hk : Keeps NoB w w1) => h.but2 hk)
      clear hh h hS hI hs hi hal e hi0 hx
      unfold refV at *
      rcases hx' with hx | ⟨hx, hy⟩
      all_goals
        go_enter Tryz.func110, Tryz.ntmps110
        go_wp2_with (go_at_call 68; refine HH.out.mono ?_; rintro e w1 ⟨rfl, hk1⟩; have B := rbox hk1; have A0 := B.A0; have A1 := B.A1; have C0 := B.C0; have C1 := B.C1; have zA := B.zA; have zC := B.zC)
        (try simp only [Exit.inBlock, Exit.then])
        refine bodyPost_ret (v := .tuple #[.agg #[.slice p d.length c, .int .i64 room], .int .i64 10]) ?_ rfl ?_
        · rw [results_cell_tmp rfl]
          go_simp
        · exact rto_store (Hh.out _ B.keeps) B.keeps _ _
    have e : chmodErr d i x = 0 := by unfold chmodErr; rw [if_neg hi0, if_pos hx]
    rw [e, if_pos rfl]
    have hx' : 0 ≤ x ∧ x ≤ 4095 := by simpa [okMode] using hx
    obtain ⟨hxa, hxb⟩ := hx'
    obtain ⟨k, rfl, hk⟩ := has_nat hi
    obtain ⟨g, off, q, m, rfl, hSg, hrow⟩ := h.rowAt hk
    have Hh := Lib.hid (fun (w1 : World) (hk : Keeps NoB w w1) => h.but2 hk)
    have HC := Lib.hid (fun (w1 : World) (hk1 : Keeps NoB w w1) => (⟨(hrow.keepN hk1).c0, (hrow.keepN hk1).c1, (hrow.keepN hk1).c2, (hrow.keepN hk1).c3, (hrow.keepN hk1).c4, (hrow.keepN hk1).lt⟩ : _ ∧ _ ∧ _ ∧ _ ∧ _ ∧ _))
    have hput := fun (w2 : World) (hk2 : Keeps NoB w w2) (hsz : w.heap.size + 2 ≤ w2.heap.size) => r4put_any (S := But2 S w) (room := room) (h.but2 hk2) (but2_new hS hsz) k hk (by have := mass_ge d; unfold smallD at hs; omega) ((nd d (k : Int)).setMode x) q m (hrow.sl.keepS hk2 (fun _ _ _ h => h) (fun g hg hl => ⟨hg, by omega, by omega⟩))
    have hlen : (chmodTo d k x).length = d.length := upd_length _ _ _
    have hfold : upd d (k : Int) ((nd d (k : Int)).setMode x) = chmodTo d k x := rfl
    have hx0 : ((nd d (k : Int)).setMode x).kind = (nd d (k : Int)).kind := rfl
    have hx1 : ((nd d (k : Int)).setMode x).mode = x := rfl
    have hx2 : ((nd d (k : Int)).setMode x).holds = (nd d (k : Int)).holds := rfl
    have hx3 : ((nd d (k : Int)).setMode x).data = (nd d (k : Int)).data := rfl
    have hx4 : ((nd d (k : Int)).setMode x).ents = (nd d (k : Int)).ents := rfl
    rw [hx0, hx1, hx2, hx3, hx4, hfold] at hput
    have HP := Lib.hid hput
    have HL := Lib.hid hlen
    clear hput hlen hfold hx0 hx1 hx2 hx3 hx4
    generalize chmodTo d k x = dd at *
    clear hh h hS hI hs hi hal e hi0 hx hrow
    unfold refV at *
    generalize (nd d (k : Int)).ents.length = en at *
    go_enter Tryz.func110, Tryz.ntmps110
    go_wp2_with (first | (go_at_call 68; refine HH.out.mono ?_; rintro e w1 ⟨rfl, hk1⟩; have B := rbox hk1; have A0 := B.A0; have A1 := B.A1; have C0 := B.C0; have C1 := B.C1; have zA := B.zA; have zC := B.zC; obtain ⟨R0, R1, R2, R3, R4, hgl⟩ := HC.out _ B.keeps; have l0 : w.heap.size < w1.heap.size := Nat.lt_of_lt_of_le (by simp) B.size; have l1 : w.heap.size + 1 < w1.heap.size := B.size) | (go_at_call 168; go_loud (refine (HP.out _ (B.keeps.alloc _) (Nat.le_trans B.size (by simp))).mono ?_); rintro e w3 ⟨v', rfl, href, hk3⟩; obtain ⟨p3, c3, hv, href⟩ := href; have B3 := (B.on ((Keeps.refl NoB _).alloc _)).on hk3; unfold refV at hv; rw [HL.out] at hv; subst hv; have D0 := B3.C0; have D1 := B3.C1; have zD := B3.zC))
    (try simp only [Exit.inBlock, Exit.then])
    refine bodyPost_ret (v := .tuple #[.agg #[.slice p3 d.length c3, .int .i64 room], .int .i64 0]) ?_ rfl ?_
    · rw [results_cell_tmp rfl]
      go_simp
    · have hz := rto_store (room := room) (err := 0) href B3.keeps (.slice p3 d.length c3) (.int .i64 room)
      unfold refV at hz
      rw [HL.out] at hz
      exact hz
end
end Go.Proofs.YtijbhmledmnifaaGreatDoor

/-
  Contracts of the reference for layer 4, the seventh part: Leave.
-/
namespace Go.Proofs.YtijbhmledmnifaaGreatDoor
open Go.RowKit
set_option maxRecDepth 100000
set_option maxHeartbeats 1000000
section
variable {S : Nat → Prop} {w : World} {p : Option Addr} {c : Nat} {d : Nds} {room : Int}
theorem drop_free (hI : DInv d) (hcl : NoGarb d) {i k : Int} {name : ByteArray} (hi : (nd d i).kind = 2) (hg : entGet (nd d i).ents name = some k) : has (dropTo d i name) k ∧ ∀ j, Garb (dropTo d i name) j → j = k := by
  have hh := setE_pos hI hi
  refine ⟨(has_setE hh _ k).2 (hI.tgt i _ (entGet_mem hg)).1, fun j hj => ?_⟩
  obtain ⟨g1, g2, g3⟩ := hj
  have h2 := drop_links hI hh hg j
  rw [show (nd (dropTo d i name) j).holds = (nd d j).holds from holds_setE hh _ j] at g3
  by_cases e : j = k
  · exact e
  · rw [if_neg (fun h => e h.symm)] at h2
    exact absurd ⟨(has_setE hh _ j).1 g1, by omega, g3⟩ (hcl j)
theorem boxedz {w w1 : World} {cs : Array Value} {T : TypeId} (hk : Keeps NoB (w.alloc (.cells cs T)) w1) (j : Nat) : w1.frozen? ⟨w.heap.size, j, none⟩ = false := by
  have hn := heap_alloc_new w (.cells cs T)
  have h4 := (hk.block w.heap.size (by simp) (fun h => h)).trans hn
  exact frozen_of_row w1 _ j _ T h4
theorem RBox.set {w w1 : World} {p : Option Addr} {n c : Nat} {room : Int} (h : RBox w w1 p n c room) {N : Nat} (hN : w.heap.size + 2 ≤ N) (j : Nat) (v : Value) : RBox w (w1.setCell ⟨N, j, none⟩ v) p n c room := by
  have k := keeps_set w1 ⟨N, j, none⟩ v
  have l1 := lt_of_cell h.A0
  have l2 := lt_of_cell h.C0
  have n1 : ¬ w.heap.size = N := by omega
  have n2 : ¬ w.heap.size + 1 = N := by omega
  have := k.size
  exact ⟨(k.cell (p := ⟨w.heap.size, 0, none⟩) l1 n1).trans h.A0, (k.cell (p := ⟨w.heap.size, 1, none⟩) l1 n1).trans h.A1, (k.cell (p := ⟨w.heap.size + 1, 0, none⟩) l2 n2).trans h.C0, (k.cell (p := ⟨w.heap.size + 1, 1, none⟩) l2 n2).trans h.C1,
    fun j => (k.frozen (p := ⟨w.heap.size, j, none⟩) l1 n1).trans (h.zA j), fun j => (k.frozen (p := ⟨w.heap.size + 1, j, none⟩) l2 n2).trans (h.zC j), by have := h.size; omega, h.keeps.step k (fun b hb => .inr (by have : b = N := hb; omega))⟩
structure NBox (w1 w2 : World) (v0 v1 v2 v3 v4 : Value) : Prop where
  N0 : w2.cell? ⟨w1.heap.size, 0, none⟩ = some v0
  N1 : w2.cell? ⟨w1.heap.size, 1, none⟩ = some v1
  N2 : w2.cell? ⟨w1.heap.size, 2, none⟩ = some v2
  N3 : w2.cell? ⟨w1.heap.size, 3, none⟩ = some v3
  N4 : w2.cell? ⟨w1.heap.size, 4, none⟩ = some v4
  zN : ∀ j, w2.frozen? ⟨w1.heap.size, j, none⟩ = false
theorem nbox {w1 w2 : World} {v0 v1 v2 v3 v4 : Value} {T : TypeId} (hk : Keeps NoB (w1.alloc (.cells #[v0, v1, v2, v3, v4] T)) w2) : NBox w1 w2 v0 v1 v2 v3 v4 :=
  ⟨boxed hk 0 _ rfl, boxed hk 1 _ rfl, boxed hk 2 _ rfl, boxed hk 3 _ rfl, boxed hk 4 _ rfl, boxedz hk⟩
def But3 (S : Nat → Prop) (w : World) (N : Nat) : Nat → Prop := fun b => But2 S w b ∧ b ≠ N
theorem r4leave_any (h : RefAt S w p c d) (hS : ∀ g, w.heap.size ≤ g → S g) (hI : DInv d) (hcl : NoGarb d) (hs : smallD d) (i : Int) (name : ByteArray) :
    Calls Tryz.prog 131 #[refV p c d room, .int .i64 i, .string name] w (RTo S w (leaveTo d i name) room (leaveErr d i name)) := by
  have hcap := h.cap
  have hmax := h.max
  unfold maxLen at hmax
  have hal : Keeps NoB w ((w.alloc (.cells #[.slice p d.length c, .int .i64 room] 35)).alloc (.cells #[.slice none 0 0, .int .i64 0] 35)) := ((Keeps.refl _ _).alloc _).alloc _
  have hh := r4look_any (room := room) (h.keepN hal) hI i name
  unfold leaveTo
  by_cases c0 : lookErr d i name = 0
  case neg =>
    have e : leaveErr d i name = lookErr d i name := if_pos c0
    rw [e, if_neg c0]
    have HH := Lib.hid hh
    have Hh := Lib.hid (fun (w1 : World) (hk : Keeps NoB w w1) => h.but2 hk)
    clear hh h hS hI hs hal hcl e
    generalize lookErr d i name = er at *
    generalize lookOf d i name = lo at *
    unfold refV at *
    go_enter Tryz.func131, Tryz.ntmps131
    go_wp2_with (go_at_call 195; refine HH.out.mono ?_; rintro e w1 ⟨rfl, hk1⟩; have B := rbox hk1; have A0 := B.A0; have A1 := B.A1; have C0 := B.C0; have C1 := B.C1; have zA := B.zA; have zC := B.zC)
    (try simp only [Exit.inBlock, Exit.then])
    refine bodyPost_ret (v := .tuple #[.agg #[.slice p d.length c, .int .i64 room], .int .i64 er]) ?_ rfl ?_
    · rw [results_cell_tmp rfl]
      go_simp
    · exact rto_store (Hh.out _ B.keeps) B.keeps _ _
  case pos =>
  obtain ⟨f0, hget⟩ := lookErr_zero c0
  obtain ⟨hi, hi2⟩ := folderErr_zero f0
  have hE : ∀ (P : Int → Prop), P (if (nd d (lookOf d i name)).ents ≠ [] then 16 else 0) → P (leaveErr d i name) := fun P hP => by
    unfold leaveErr; rw [if_neg (by simpa using c0)]; exact hP
  rw [c0] at hh
  generalize hkk : lookOf d i name = ko at *
  have hk := (hI.tgt i _ (entGet_mem hget)).1
  have hko := hk
  obtain ⟨o, rfl, ho⟩ := has_nat hk
  have hi0 := hi
  obtain ⟨k, rfl, hkl⟩ := has_nat hi
  obtain ⟨g, off, q, m, rfl, hSg, hrow⟩ := h.rowAt hkl
  obtain ⟨g', off', q', m', hp', _, hrow'⟩ := h.rowAt ho
  cases hp'
  have Hh := Lib.hid (fun (w1 : World) (hk : Keeps NoB w w1) => h.but2 hk)
  have HC := Lib.hid (fun (w1 : World) (hk1 : Keeps NoB w w1) => (⟨(hrow.keepN hk1).c0, (hrow.keepN hk1).c1, (hrow.keepN hk1).c2, (hrow.keepN hk1).c3, (hrow.keepN hk1).c4, (hrow.keepN hk1).lt, (hrow'.keepN hk1).c4⟩ : _ ∧ _ ∧ _ ∧ _ ∧ _ ∧ _ ∧ _))
  have HH := Lib.hid hh
  have hcap2 := hrow'.sl.cap
  have hmax2 := hrow'.sl.max
  unfold maxLen at hmax2
  by_cases d1 : (nd d (o : Int)).ents = []
  case neg =>
    have e : leaveErr d k name = 16 := hE (fun x => x = 16) (if_pos d1)
    rw [e, if_neg (by decide)]
    have hpos : (0 : Int) < ((nd d (o : Int)).ents.length : Int) := by
      have := List.length_pos_iff.2 d1
      omega
    clear hh h hS hI hs hal hcl e hE hi hi0 hi2 hk hko hget hkk d1 c0 f0 hrow hrow'
    generalize (nd d (o : Int)).ents.length = eo at *
    unfold refV at *
    go_enter Tryz.func131, Tryz.ntmps131
    go_wp2_with (go_at_call 195; refine HH.out.mono ?_; rintro e w1 ⟨rfl, hk1⟩; have B := rbox hk1; have A0 := B.A0; have A1 := B.A1; have C0 := B.C0; have C1 := B.C1; have zA := B.zA; have zC := B.zC; obtain ⟨R0, R1, R2, R3, R4, hgl, Q4⟩ := HC.out _ B.keeps)
    (try simp only [Exit.inBlock, Exit.then])
    refine bodyPost_ret (v := .tuple #[.agg #[.slice (some ⟨g, off, none⟩) d.length c, .int .i64 room], .int .i64 16]) ?_ rfl ?_
    · rw [results_cell_tmp rfl]
      go_simp
    · exact rto_store (Hh.out _ B.keeps) B.keeps _ _
  case pos =>
    have e : leaveErr d k name = 0 := hE (fun x => x = 0) (if_neg (by simpa using d1))
    rw [e, if_pos rfl]
    have hlen0 : (nd d (o : Int)).ents.length = 0 := by rw [d1]; rfl
    rw [hlen0] at HC
    have hel := nd_ents_len hs (k : Int)
    have hris := (hI.node (k : Int)).rising
    have hhas : hasErr (nd d (k : Int)).ents name = 0 := by unfold hasErr; rw [if_pos (entGet_has hget)]
    have hdrop := fun (w2 : World) (N : Nat) (hk2 : Keeps NoB w w2) (hN : w.heap.size + 2 ≤ N) (hsz : N < w2.heap.size) => r3drop_any (But3 S w N) w2 q m (nd d (k : Int)).ents name
      (hrow.sl.keepS hk2 (fun _ _ _ h => h) (fun g hg hl => ⟨⟨hg, by omega, by omega⟩, by omega⟩)) hris (by omega) (fun g hg => ⟨⟨hS g (by omega), by omega, by omega⟩, by omega⟩)
    rw [hhas] at hdrop
    have hput := fun (w2 : World) (q2 : Option Addr) (m2 : Nat) (hk2 : Keeps NoB w w2) (hsz : w.heap.size + 2 ≤ w2.heap.size) (hx : SlAt encEnt (But2 S w) w2 q2 m2 (entDel (nd d (k : Int)).ents name)) => r4put_any (S := But2 S w) (room := room) (h.but2 hk2) (but2_new hS hsz) k hkl (by have := mass_ge d; unfold smallD at hs; omega) ((nd d (k : Int)).setEnts (entDel (nd d (k : Int)).ents name)) q2 m2 hx
    have hlen : (dropTo d k name).length = d.length := length_setE _ _ _
    have hfold : upd d (k : Int) ((nd d (k : Int)).setEnts (entDel (nd d (k : Int)).ents name)) = dropTo d k name := rfl
    have hx0 : ((nd d (k : Int)).setEnts (entDel (nd d (k : Int)).ents name)).kind = (nd d (k : Int)).kind := rfl
    have hx1 : ((nd d (k : Int)).setEnts (entDel (nd d (k : Int)).ents name)).mode = (nd d (k : Int)).mode := rfl
    have hx2 : ((nd d (k : Int)).setEnts (entDel (nd d (k : Int)).ents name)).holds = (nd d (k : Int)).holds := rfl
    have hx3 : ((nd d (k : Int)).setEnts (entDel (nd d (k : Int)).ents name)).data = (nd d (k : Int)).data := rfl
    have hx4 : ((nd d (k : Int)).setEnts (entDel (nd d (k : Int)).ents name)).ents = entDel (nd d (k : Int)).ents name := rfl
    rw [hfold] at hput
    simp only [hx0, hx1, hx2, hx3, hx4] at hput
    obtain ⟨hf1, hf2⟩ := drop_free hI hcl hi2 hget
    have hsm2 : smallD (dropTo d k name) := by
      have := drop_mass hI hi0 hget
      unfold smallD at *
      omega
    have hfree := fun (w3 : World) (p3 : Option Addr) (c3 : Nat) (hr : RefAt (But2 S w) w3 p3 c3 (dropTo d k name)) (hsz : w.heap.size + 2 ≤ w3.heap.size) => r4free_any (room := room) hr (but2_new hS hsz) (drop_inv hI hi2 hget) hsm2 o hf1 hf2
    have HP := Lib.hid hput
    have HD := Lib.hid hdrop
    have HF := Lib.hid hfree
    have HL := Lib.hid hlen
    unfold refV at *
    rw [HL.out] at HF
    clear hh h hS hI hs hal hcl e hE hi hi0 hi2 hk hko hget hkk d1 c0 f0 hrow hrow' hput hdrop hfree hlen hfold hx0 hx1 hx2 hx3 hx4 hf1 hf2 hsm2 hris hhas hlen0
    generalize dropTo d k name = dd at *
    generalize entDel (nd d (k : Int)).ents name = ne at *
    generalize (nd d (k : Int)).ents = en at *
    go_enter Tryz.func131, Tryz.ntmps131
    go_wp2_with (first | (go_at_call 195; refine HH.out.mono ?_; rintro e w1 ⟨rfl, hk1⟩; have B := rbox hk1; have A0 := B.A0; have A1 := B.A1; have C0 := B.C0; have C1 := B.C1; have zA := B.zA; have zC := B.zC; obtain ⟨R0, R1, R2, R3, R4, hgl, Q4⟩ := HC.out _ B.keeps; have l0 : w.heap.size < w1.heap.size := Nat.lt_of_lt_of_le (by simp) B.size; have l1 : w.heap.size + 1 < w1.heap.size := B.size) | (go_at_call 196; go_loud (refine (HD.out _ w1.heap.size (B.keeps.alloc _) B.size (by simp)).mono ?_); rintro e w2 ⟨v2, rfl, hsl, hk2⟩; obtain ⟨q2, m2, rfl, hsl⟩ := hsl; have NB := nbox hk2; have B2 := (B.on ((Keeps.refl NoB _).alloc _)).on hk2; have A0' := B2.A0; have A1' := B2.A1; have N0 := NB.N0; have N1 := NB.N1; have N2 := NB.N2; have N3 := NB.N3; have N4 := NB.N4; have zN := NB.zN; have nA : ¬ w.heap.size = w1.heap.size := Nat.ne_of_lt l0; have nA' : ¬ w1.heap.size = w.heap.size := fun e => nA e.symm) | (go_at_call 168; go_loud (refine (HP.out _ q2 m2 (B2.set B.size _ _).keeps (B2.set B.size _ _).size (hsl.keepS (keeps_set w2 ⟨w1.heap.size, 4, none⟩ _) (fun b hb _ e => hb.2 e) (fun b hb _ => hb.1))).mono ?_); rintro e w4 ⟨v', rfl, href, hk4⟩; obtain ⟨p3, c3, hv, href⟩ := href; have B4 := (B2.set B.size 4 (.slice q2 ne.length m2)).on hk4; unfold refV at hv; rw [HL.out] at hv; subst hv) | (go_at_call 197; go_loud (refine (HF.out _ _ _ href B4.size).mono ?_); rintro e w5 ⟨p5, c5, rfl, hr5, hk5⟩; have B5 := B4.on hk5; have D0 := B5.C0; have D1 := B5.C1; have zD := B5.zC))
    (try simp only [Exit.inBlock, Exit.then])
    refine bodyPost_ret (v := .tuple #[.agg #[.slice p5 (gc dd).length c5, .int .i64 room], .int .i64 0]) ?_ rfl ?_
    · rw [results_cell_tmp rfl]
      go_simp
    · exact rto_store hr5 B5.keeps _ _
end
end Go.Proofs.YtijbhmledmnifaaGreatDoor
