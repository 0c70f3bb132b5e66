/-
  Contracts of package disk, the ninth part: Enter.
-/
import Derived.Test.YtfomkkoecelakaaDoorB10
import Derived.Test.YtfomkkoecelakaaDoorB09

set_option linter.unusedSimpArgs false
set_option linter.unusedVariables false

namespace Go.Proofs.YtfomkkoecelakaaDoor
open Go.RowKit
set_option maxRecDepth 100000
set_option maxHeartbeats 1000000

def enterErr (d : Nds) (room i : Int) (name : ByteArray) (k : Int) : Int :=
  if folderErr d i ≠ 0 then folderErr d i else if (nd d k).kind = 0 then 12 else if (nd d k).kind = 2 ∧ 0 < links d k then 22 else if 32768 ≤ links d k then 24
  else if putErr (nd d i).ents name ≠ 0 then putErr (nd d i).ents name else if room - used d < name.size then 20 else 0
def enterD (d : Nds) (room i : Int) (name : ByteArray) (k : Int) : Nds := if enterErr d room i name k = 0 then enterTo d i name k else d

section
variable {R : RD} {w : World} {a : Nat} {d : Nds} {room : Int} {lk up : Int → Int}

theorem Rep.turnA {R1 : RD} {w1 w2 : World} {d' : Nds} {us : Int} (h : Rep R1 w1 a d' room us lk up) (hT : Turn R w R1 w1) (k : Keeps (fun x => x = a) w1 w2) : Turn R w R1 w2 :=
  hT.trans (Turn.of (k.mono (fun x _ hx => by subst hx; exact h.fA)))

/-- Behind Put, where there is room. -/
theorem enter_facts {i k : Int} {name : ByteArray} {w1 : World} (hC : Casc R w a d room lk up zp) (hcl : NoGarb d) (hmax : room ≤ 9223372036854775807) (hi : (nd d i).kind = 2) (hk : has d k) (hkl : (nd d k).kind = 2 → links d k = 0)
    (hp : putErr (nd d i).ents name = 0) (hno : (nd d k).kind = 2 → ¬ Above d k i) (hb : mass d + 1 ≤ 2147483648) (hfit : (used d : Int) + name.size ≤ room) (hsz : name.size ≤ 4294967296) (ht : DTo w w1 ⟨R.g i, 5, none⟩ (R.ev i) (putTo (nd d i).ents name k)) :
    Calls Tryd.prog 27 #[.pointer (some ⟨a, 0, none⟩), .int .i64 name.size] w1 fun e w2 => e = .returned (.bool true) ∧ w2.cell? ⟨R.g k, 0, none⟩ = some (.int .i64 (nd d k).kind) ∧ w2.cell? ⟨R.g k, 2, none⟩ = some (.int .i64 (links d k)) ∧ w2.cell? ⟨R.g k, 6, none⟩ = some (.int .i64 (up k)) ∧
      w2.frozen? ⟨R.g k, 2, none⟩ = false ∧ w2.frozen? ⟨R.g k, 6, none⟩ = false ∧
      DiskTo R w a (enterTo d i name k) room (if (nd d k).kind = 2 then (w2.setCell ⟨R.g k, 2, none⟩ (.int .i64 ((links d k : Int) + 1))).setCell ⟨R.g k, 6, none⟩ (.int .i64 i) else w2.setCell ⟨R.g k, 2, none⟩ (.int .i64 ((links d k : Int) + 1))) := by
  have hh := setE_pos hC.inv hi
  have hcnt := hC.cnt k hk
  have hlk : lk k = links d k := by rw [hcnt]; unfold zp; rfl
  rw [← hlk]
  rw [show putTo (nd d i).ents name k = entPut (nd d i).ents name k from if_pos hp] at ht
  obtain ⟨R1, hR1, hT1, hg1, hb1⟩ := hC.rep.setDir hh ht
  have hR1 : Rep R1 w1 a (enterTo d i name k) room (used d) lk up := hR1
  have hul := used_le2 hC.inv hC.small
  refine (take_any hR1 name.size (by omega) (by omega) hmax (by omega) (by omega)).mono fun e w2 ⟨h1, h2, h3⟩ => ?_
  rw [show (decide ((name.size : Int) ≤ room - used d)) = true from decide_eq_true (by omega)] at h1
  rw [show takeU room (used d) name.size = used d + name.size from if_pos (by omega)] at h2
  have hk1 : has (enterTo d i name k) k := (has_setE hh _ k).2 hk
  have hn := h2.node k hk1
  rw [hg1] at hn
  have hkind : (nd (enterTo d i name k) k).kind = (nd d k).kind := kind_setE hh _ k
  refine ⟨h1, by rw [hn.kind, hkind], hn.links, hn.up, hn.fz 2, hn.fz 6, ?_⟩
  have hT2 := hR1.turnA hT1 h3
  have hu := enter_used (k := k) hh hp
  have hR3 := h2.setLinks hk1 (lk k + 1)
  have hsm : smallD (enterTo d i name k) := by unfold smallD; rw [enter_mass hh hp]; omega
  have k1 : Keeps R1.F w2 (w2.setCell ⟨R1.g k, 2, none⟩ (.int .i64 (lk k + 1))) := (Keeps.refl _ _).setCell (.inl (h2.fN hk1)) _
  rw [← hg1]
  by_cases hk2 : (nd d k).kind = 2
  · rw [if_pos hk2]
    have hR4 := hR3.setUp hk1 i
    refine ⟨R1, IsDisk.enter hC hcl hi hk hkl hp hno ?_ hsm (by rw [hu]; omega) hmax, hT2.trans (Turn.of (k1.setCell (.inl (hR3.fN hk1)) _))⟩
    rw [if_pos hk2, hu]
    exact_mod_cast hR4
  · rw [if_neg hk2]
    refine ⟨R1, IsDisk.enter hC hcl hi hk hkl hp hno ?_ hsm (by rw [hu]; omega) hmax, hT2.trans (Turn.of k1)⟩
    rw [if_neg hk2, hu]
    exact_mod_cast hR3

/-- Behind Put, where there is none: Drop. -/
theorem enter_back {i k : Int} {name : ByteArray} {w1 : World} (hC : Casc R w a d room lk up zp) (hcl : NoGarb d) (hfit0 : (used d : Int) ≤ room) (hmax : room ≤ 9223372036854775807) (hi : (nd d i).kind = 2)
    (hp : putErr (nd d i).ents name = 0) (hfit : room - used d < name.size) (hsz : name.size ≤ 4294967296) (ht : DTo w w1 ⟨R.g i, 5, none⟩ (R.ev i) (putTo (nd d i).ents name k)) :
    Calls Tryd.prog 27 #[.pointer (some ⟨a, 0, none⟩), .int .i64 name.size] w1 fun e w2 => e = .returned (.bool false) ∧
      Calls Tryd.prog 49 #[.pointer (some ⟨R.g i, 5, none⟩), .string name] w2 fun e w3 => e = .returned (.int .i64 0) ∧ DiskTo R w a d room w3 := by
  have hh := setE_pos hC.inv hi
  obtain ⟨hok, hhas⟩ := putErr_zero.1 hp
  rw [show putTo (nd d i).ents name k = entPut (nd d i).ents name k from if_pos hp] at ht
  obtain ⟨R1, hR1, hT1, hg1, hb1⟩ := hC.rep.setDir hh ht
  have hR1 : Rep R1 w1 a (enterTo d i name k) room (used d) lk up := hR1
  have hul := used_le2 hC.inv hC.small
  refine (take_any hR1 name.size (by omega) (by omega) hmax (by omega) (by omega)).mono fun e w2 ⟨h1, h2, h3⟩ => ?_
  rw [show (decide ((name.size : Int) ≤ room - used d)) = false from decide_eq_false (by omega)] at h1
  rw [show takeU room (used d) name.size = used d from if_neg (by omega)] at h2
  have hi1 : has (enterTo d i name k) i := (has_setE hh _ i).2 hh
  have hents : (nd (enterTo d i name k) i).ents = entPut (nd d i).ents name k := by unfold enterTo; rw [ents_setE hh, if_pos rfl]
  have hn := (h2.node i hi1).dir
  have hlen := nd_ents_len hC.small i
  have hl2 := len_put (k := k) hhas
  rw [hg1, hents] at hn
  have hlen2 : (nd d i).ents.length ≤ 2147483648 := by
    have h1 := sumBy_ge mass1 (has_range hh).1 (has_range hh).2
    have := hC.small
    unfold smallD mass at this
    unfold mass1 at h1
    unfold mass1 at this
    omega
  refine ⟨h1, (drop_d w2 ⟨R.g i, 5, none⟩ (R1.ev i) _ name hn (by omega)).mono fun e w3 ⟨h4, h5⟩ => ?_⟩
  have hput : entHas (entPut (nd d i).ents name k) name = true := by rw [entHas_put hhas]; simp
  rw [show hasErr (entPut (nd d i).ents name k) name = 0 by unfold hasErr; rw [if_pos hput]] at h4
  rw [entDel_put (hC.inv.node i).rising hhas] at h5
  rw [← hg1] at h5
  obtain ⟨R3, hR3, hT3, _, _⟩ := h2.setDir hi1 h5
  have hd : upd (enterTo d i name k) i ((nd (enterTo d i name k) i).setEnts (nd d i).ents) = d := by
    show setE (setE d i (entPut (nd d i).ents name k)) i (nd d i).ents = d
    rw [setE_setE hh, setE_self hh]
  rw [hd] at hR3
  exact ⟨h4, R3, ⟨⟨lk, up, hC.re hR3⟩, hcl, hfit0, hmax⟩, (hR1.turnA hT1 h3).trans hT3⟩

/-- Behind a Put that fails. -/
theorem enter_same {i k : Int} {name : ByteArray} {w1 : World} (hC : Casc R w a d room lk up zp) (hcl : NoGarb d) (hfit0 : (used d : Int) ≤ room) (hmax : room ≤ 9223372036854775807) (hi : (nd d i).kind = 2)
    (hp : putErr (nd d i).ents name ≠ 0) (ht : DTo w w1 ⟨R.g i, 5, none⟩ (R.ev i) (putTo (nd d i).ents name k)) : DiskTo R w a d room w1 := by
  have hh := setE_pos hC.inv hi
  rw [show putTo (nd d i).ents name k = (nd d i).ents from if_neg hp] at ht
  obtain ⟨R1, hR1, hT1, hg1, hb1⟩ := hC.rep.setDir hh ht
  rw [show upd d i ((nd d i).setEnts (nd d i).ents) = d from setE_self hh] at hR1
  exact ⟨R1, ⟨⟨lk, up, hC.re hR1⟩, hcl, hfit0, hmax⟩, hT1⟩

theorem enterD_any (h : IsDisk R w a d room) (i : Int) (name : ByteArray) (k : Int) (hsz : name.size ≤ 4294967296) (hb : mass d + 1 ≤ 2147483648) (hno : folderErr d i = 0 → (nd d k).kind = 2 → ¬ Above d k i) :
    Calls Tryd.prog 28 #[.pointer (some ⟨a, 0, none⟩), .int .i64 i, .string name, .int .i64 k] w fun e w' => e = .returned (.int .i64 (enterErr d room i name k)) ∧ DiskTo R w a (enterD d room i name k) room w' := by
  have H := Lib.hid h
  obtain ⟨⟨lk, up, hC⟩, hcl, hfit, hmax⟩ := h
  have hf := folder_any hC.rep i
  unfold enterD
  by_cases c0 : folderErr d i = 0
  case neg =>
    have e : enterErr d room i name k = folderErr d i := if_pos c0
    rw [e, if_neg c0]
    have hp : ptrIf R (folderErr d i) i = .pointer none := if_neg c0
    rw [hp] at hf
    clear hC hcl hfit hmax e
    generalize folderErr d i = er at *
    go_enter Tryd.func28, Tryd.ntmps28
    go_wp2_with (go_at_call 30; refine hf.mono ?_; rintro e w1 ⟨rfl, rfl⟩)
    go_ret
    exact ⟨rfl, H.out.same (Keeps.refl _ _)⟩
  case pos =>
  obtain ⟨hi, hk1⟩ := folderErr_zero c0
  rw [c0] at hf
  have hp : ptrIf R 0 i = .pointer (some ⟨R.g i, 0, none⟩) := rfl
  rw [hp] at hf
  have hl := hC.rep.l
  have hlook := hC.rep.look k
  unfold nodeV at hlook
  have hE0 : ∀ (P : Int → Prop), P (if (nd d k).kind = 0 then 12 else if (nd d k).kind = 2 ∧ 0 < links d k then 22 else if 32768 ≤ links d k then 24
      else if putErr (nd d i).ents name ≠ 0 then putErr (nd d i).ents name else if room - used d < name.size then 20 else 0) → P (enterErr d room i name k) := fun P hP => by
    unfold enterErr; rw [if_neg (by simpa using c0)]; exact hP
  by_cases hk : has d k
  case neg =>
    rw [if_neg hk] at hlook
    have e : enterErr d room i name k = 12 := hE0 (fun x => x = 12) (if_pos (not_has hk))
    rw [e, if_neg (by decide)]
    clear hC hcl hfit hmax e hE0
    go_enter Tryd.func28, Tryd.ntmps28
    go_wp2_with (go_at_call 30; refine hf.mono ?_; rintro e w1 ⟨rfl, rfl⟩)
    go_ret
    exact ⟨rfl, H.out.same (Keeps.refl _ _)⟩
  case pos =>
  rw [if_pos hk] at hlook
  have hk0 : ¬ (nd d k).kind = 0 := hk
  have hE1 : ∀ (P : Int → Prop), P (if (nd d k).kind = 2 ∧ 0 < links d k then 22 else if 32768 ≤ links d k then 24
      else if putErr (nd d i).ents name ≠ 0 then putErr (nd d i).ents name else if room - used d < name.size then 20 else 0) → P (enterErr d room i name k) := fun P hP => hE0 P (by rw [if_neg hk0]; exact hP)
  have hn := hC.rep.node k hk
  have c1 := hn.kind
  have c2 := hn.links
  have hcnt := hC.cnt k hk
  have hlk : lk k = links d k := by rw [hcnt]; unfold zp; rfl
  rw [hlk] at c2
  by_cases d1 : (nd d k).kind = 2 ∧ 0 < links d k
  · have e : enterErr d room i name k = 22 := hE1 (fun x => x = 22) (if_pos d1)
    rw [e, if_neg (by decide)]
    obtain ⟨d2, d3⟩ := d1
    rw [d2] at c1
    have d3' : (0 : Int) < (links d k : Int) := by omega
    clear hC hcl hfit hmax e hE0 hE1 hn hcnt hlk hk0 hno d2 d3
    generalize (links d k : Int) = lks at *
    go_enter Tryd.func28, Tryd.ntmps28
    go_wp2_with (go_at_call 30; refine hf.mono ?_; rintro e w1 ⟨rfl, rfl⟩)
    go_ret
    exact ⟨rfl, H.out.same (Keeps.refl _ _)⟩
  have hE2 : ∀ (P : Int → Prop), P (if 32768 ≤ links d k then 24
      else if putErr (nd d i).ents name ≠ 0 then putErr (nd d i).ents name else if room - used d < name.size then 20 else 0) → P (enterErr d room i name k) := fun P hP => hE1 P (by rw [if_neg d1]; exact hP)
  have d1' : (nd d k).kind ≠ 2 ∨ ((nd d k).kind = 2 ∧ (links d k : Int) = 0) := by
    by_cases e2 : (nd d k).kind = 2
    · exact .inr ⟨e2, by have := Nat.eq_zero_of_not_pos (fun h => d1 ⟨e2, h⟩); omega⟩
    · exact .inl e2
  have hlen := nd_ents_len hC.small i
  have hdir := (hC.rep.node i hi).dir
  have hput := Lib.hid (put_d w ⟨R.g i, 5, none⟩ (R.ev i) (nd d i).ents name k hdir (by omega))
  by_cases d2 : 32768 ≤ links d k
  · have e : enterErr d room i name k = 24 := hE2 (fun x => x = 24) (if_pos d2)
    rw [e, if_neg (by decide)]
    have d2' : (links d k : Int) ≥ 32768 := by omega
    have d3 : (nd d k).kind ≠ 2 := d1'.elim id (fun h => by have := h.2; omega)
    clear hC hcl hfit hmax e hE0 hE1 hE2 hn hcnt hlk hk0 hno d1 d1' d2 hput hdir hlen
    generalize (links d k : Int) = lks at *
    go_enter Tryd.func28, Tryd.ntmps28
    go_wp2_with (go_at_call 30; refine hf.mono ?_; rintro e w1 ⟨rfl, rfl⟩)
    go_ret
    exact ⟨rfl, H.out.same (Keeps.refl _ _)⟩
  have hE3 : ∀ (P : Int → Prop), P (if putErr (nd d i).ents name ≠ 0 then putErr (nd d i).ents name else if room - used d < name.size then 20 else 0) → P (enterErr d room i name k) := fun P hP => hE2 P (by rw [if_neg d2]; exact hP)
  have d2' : ¬ (32768 ≤ (links d k : Int)) := by omega
  have d2'' : (32768 ≤ (links d k : Int)) = False := by simp; omega
  by_cases d3 : putErr (nd d i).ents name = 0
  case neg =>
    have e : enterErr d room i name k = putErr (nd d i).ents name := hE3 (fun x => x = putErr (nd d i).ents name) (if_pos d3)
    rw [e, if_neg d3]
    have HP := Lib.hid (fun (w1 : World) => enter_same (w1 := w1) (k := k) hC hcl hfit hmax hk1 d3)
    clear hC hcl hfit hmax e hE0 hE1 hE2 hE3 hn hcnt hlk hk0 hno d1 d2 hdir hlen
    generalize putErr (nd d i).ents name = pe at *
    generalize (links d k : Int) = lks at *
    rcases d1' with d4 | ⟨d4, d5⟩
    case' inl => generalize (nd d k).kind = kd at *
    case' inr => rw [d4] at c1; subst d5
    all_goals
      go_enter Tryd.func28, Tryd.ntmps28
      go_wp2_with (first | (go_at_call 30; refine hf.mono ?_; rintro e w1 ⟨rfl, rfl⟩) | (go_at_call 48; refine hput.out.mono ?_; rintro e w1 ⟨rfl, ht⟩))
      go_ret
      exact ⟨rfl, HP.out w1 ht⟩
  case pos =>
  have hE4 : ∀ (P : Int → Prop), P (if room - used d < name.size then 20 else 0) → P (enterErr d room i name k) := fun P hP => hE3 P (by rw [if_neg (by simpa using d3)]; exact hP)
  rw [d3] at hput
  have hkl : (nd d k).kind = 2 → links d k = 0 := fun e => d1'.elim (fun h => absurd e h) (fun h => by have := h.2; omega)
  by_cases d4 : room - used d < name.size
  · have e : enterErr d room i name k = 20 := hE4 (fun x => x = 20) (if_pos d4)
    rw [e, if_neg (by decide)]
    have HP := Lib.hid (fun (w1 : World) => enter_back (w1 := w1) (k := k) hC hcl hfit hmax hk1 d3 d4 hsz)
    clear hC hcl hfit hmax e hE0 hE1 hE2 hE3 hE4 hn hcnt hlk hk0 hno d1 d2 hdir hlen hkl d4 d3
    generalize (links d k : Int) = lks at *
    rcases d1' with d4 | ⟨d4, d5⟩
    case' inl => generalize (nd d k).kind = kd at *
    case' inr => rw [d4] at c1; subst d5
    all_goals
      go_enter Tryd.func28, Tryd.ntmps28
      go_wp2_with (first | (go_at_call 30; refine hf.mono ?_; rintro e w1 ⟨rfl, rfl⟩) | (go_at_call 48; refine hput.out.mono ?_; rintro e w1 ⟨rfl, ht⟩) | (go_at_call 27; refine (HP.out _ ht).mono ?_; rintro e w2 ⟨rfl, hdr⟩) | (go_at_call 49; refine hdr.mono ?_; rintro e w3 ⟨rfl, hend⟩))
      go_ret
      exact ⟨rfl, hend⟩
  · have e : enterErr d room i name k = 0 := hE4 (fun x => x = 0) (if_neg d4)
    rw [e, if_pos rfl]
    have HP := Lib.hid (fun (w1 : World) => enter_facts (w1 := w1) hC hcl hmax hk1 hk hkl d3 (hno c0) hb (by omega) hsz)
    clear hC hcl hfit hmax e hE0 hE1 hE2 hE3 hE4 hn hcnt hlk hk0 hno d1 d2 hdir hlen hkl d4 d3 hb
    have hwr : wrap64 ((links d k : Int) + 1) = (links d k : Int) + 1 := IntWalk.wrap64_in _ (by omega)
    generalize (links d k : Int) = lks at *
    rcases d1' with d4 | ⟨d4, d5⟩
    case' inl => generalize (nd d k).kind = kd at *
    case' inr => rw [d4] at c1 HP; subst d5
    all_goals
      go_enter Tryd.func28, Tryd.ntmps28
      go_wp2_with (first | (go_at_call 30; refine hf.mono ?_; rintro e w1 ⟨rfl, rfl⟩) | (go_at_call 48; refine hput.out.mono ?_; rintro e w1 ⟨rfl, ht⟩) | (go_at_call 27; refine (HP.out _ ht).mono ?_; rintro e w2 ⟨rfl, f0, f2, f6, z2, z6, hend⟩; have HEn := Lib.hid hend; clear hend))
      go_ret
      refine ⟨rfl, ?_⟩
      have hz := HEn.out
      first | (rw [if_neg d4] at hz; exact hz) | (rw [if_pos trivial] at hz; exact hz)

end

end Go.Proofs.YtfomkkoecelakaaDoor

/-
  Contracts of package disk, the tenth part: Leave.
-/
namespace Go.Proofs.YtfomkkoecelakaaDoor
open Go.RowKit
set_option maxRecDepth 100000
set_option maxHeartbeats 1000000

def leaveErr (d : Nds) (i : Int) (name : ByteArray) : Int := if lookErr d i name ≠ 0 then lookErr d i name else if (nd d (lookOf d i name)).ents ≠ [] then 16 else 0
noncomputable def leaveTo (d : Nds) (i : Int) (name : ByteArray) : Nds := if leaveErr d i name = 0 then gc (dropTo d i name) else d

section
variable {R : RD} {w : World} {a : Nat} {d : Nds} {room : Int} {lk up : Int → Int}

theorem lookErr_zero {d : Nds} {i : Int} {name : ByteArray} (h : lookErr d i name = 0) : folderErr d i = 0 ∧ entGet (nd d i).ents name = some (lookOf d i name) := by
  unfold lookErr at h
  unfold lookOf
  split at h
  · next e => exact absurd h e
  · next e =>
    split at h
    · next e2 =>
      obtain ⟨k, hk⟩ := Option.isSome_iff_exists.1 e2
      rw [if_neg e, hk]
      exact ⟨Classical.not_not.1 e, rfl⟩
    · cases h

/-- Behind Drop: the room, and less. -/
theorem leave_facts {i k : Int} {name : ByteArray} {w0 w1 : World} (hC : Casc R w0 a d room lk up zp) (hcl : NoGarb d) (hfit : (used d : Int) ≤ room) (hmax : room ≤ 9223372036854775807) (hi : (nd d i).kind = 2)
    (hg : entGet (nd d i).ents name = some k) (ht : DTo w0 w1 ⟨R.g i, 5, none⟩ (R.ev i) (entDel (nd d i).ents name)) :
    w1.cell? ⟨a, 2, none⟩ = some (.int .i64 (used d)) ∧ w1.frozen? ⟨a, 2, none⟩ = false ∧
    Calls Tryd.prog 71 #[.pointer (some ⟨a, 0, none⟩), .int .i64 k] (w1.setCell ⟨a, 2, none⟩ (.int .i64 ((used d : Int) - name.size))) fun e w2 => e = .returned (.tuple #[]) ∧ DiskTo R w0 a (gc (dropTo d i name)) room w2 := by
  have hh := setE_pos hC.inv hi
  obtain ⟨R1, hR1, hT1, hg1, hb1⟩ := hC.rep.setDir hh ht
  have hR1 : Rep R1 w1 a (dropTo d i name) room (used d) lk up := hR1
  have hu := drop_used hC.inv hh hg
  have hR2 := hR1.setUsed ((used d : Int) - name.size)
  have e : (used d : Int) - name.size = (used (dropTo d i name) : Nat) := by omega
  rw [e] at hR2 ⊢
  obtain ⟨hC2, hno⟩ := hC.drop hcl hi hg hR2
  refine ⟨hR1.used, hR1.fz 2, (less_ok _ R1 _ a (dropTo d i name) room lk up (onePend k) k rfl hC2 (onePend_pos k) hno).mono ?_⟩
  rintro e w2 ⟨rfl, R', d', lk', up', h1, h2, h3, h4⟩
  rw [decAt_onePend] at h1 h2
  have hT2 : Turn R w0 R1 (w1.setCell ⟨a, 2, none⟩ (.int .i64 (used (dropTo d i name) : Nat))) := hT1.trans (Turn.of ((Keeps.refl R1.F w1).setCell (p := ⟨a, 2, none⟩) (.inl hR1.fA) _))
  exact ⟨rfl, R', free_end h1 h2 h3 (by omega) hmax, hT2.trans h4⟩

end

end Go.Proofs.YtfomkkoecelakaaDoor

/-
  Contracts of package disk, the eleventh part: New; a disk that a law holds.
-/
namespace Go.Proofs.YtfomkkoecelakaaDoor
open Go.RowKit
set_option maxRecDepth 100000
set_option maxHeartbeats 1000000

def rootNd : Nd := ⟨2, 493, 0, ⟨#[]⟩, []⟩
def newD : Nds := [Nd.gone, rootNd]

theorem nd_new (i : Int) : nd newD i = if i = 1 then rootNd else Nd.gone := by
  unfold nd newD
  by_cases h0 : 0 ≤ i
  · rw [if_pos h0]
    by_cases h1 : i = 1
    · subst h1; rfl
    · rw [if_neg h1]
      by_cases h2 : i = 0
      · subst h2; rfl
      · rw [List.getElem?_eq_none (by simp; omega)]; rfl
  · rw [if_neg h0, if_neg (by omega)]

theorem has_new (i : Int) : has newD i ↔ i = 1 := by
  unfold has
  rw [nd_new]
  split
  · next e => exact ⟨fun _ => e, fun _ => by decide⟩
  · next e => exact ⟨fun h => absurd rfl h, fun h => absurd h e⟩

theorem cnt_new (i : Int) : cnt newD i = 0 := by simp [cnt, sumBy, newD, namesOf, Nd.gone, rootNd]
theorem used_new : used newD = 0 := by decide
theorem mass_new : mass newD = 2 := by decide
theorem count_new : count newD = 1 := by decide
theorem ents_new (i : Int) : (nd newD i).ents = [] := by rw [nd_new]; split <;> rfl

theorem noGarb_new : NoGarb newD := fun i h => by
  have := (has_new i).1 h.1
  subst this
  exact DInv.not_garb_root h

theorem inv_new : DInv newD := by
  refine ⟨by decide, by rw [nd_new]; rfl, by rw [nd_new]; rfl, fun i => ?_, fun i e h => ?_, fun i h => ?_, fun i => ⟨i, fun j hj => ?_⟩⟩
  · rw [nd_new]
    split
    · exact ⟨by decide, by decide, (fun h => by cases h), by decide, by decide, by decide, by decide, fun _ => rfl, fun _ => rfl, List.Pairwise.nil, (fun _ h => by cases h)⟩
    · exact NdOk.none
  · rw [ents_new] at h; cases h
  · have := cnt_new i
    unfold links
    split <;> omega
  · obtain ⟨_, e, h, _⟩ := hj
    rw [ents_new] at h; cases h

theorem disk_new {w : World} {B A G : Nat} {room : Int} (h0 : w.cell? ⟨A, 0, none⟩ = some (.map (some B))) (h1 : w.cell? ⟨A, 1, none⟩ = some (.int .i64 2)) (h2 : w.cell? ⟨A, 2, none⟩ = some (.int .i64 0)) (h3 : w.cell? ⟨A, 3, none⟩ = some (.int .i64 room))
    (hfz : ∀ j, w.frozen? ⟨A, j, none⟩ = false) (hm : IMap w B [(1, .pointer (some ⟨G, 0, none⟩))]) (hN : NodeAt w G (.slice none 0 0) (.slice none 0 0) rootNd 1 1) (hAB : A ≠ B) (hAG : A ≠ G) (hBG : B ≠ G) (hr : 0 ≤ room) (hr2 : room ≤ 9223372036854775807) :
    ∃ R, IsDisk R w A newD room ∧ ∀ x, x ≠ A → x ≠ B → x ≠ G → R.tag x = .none := by
  refine ⟨⟨B, [(1, .pointer (some ⟨G, 0, none⟩))], fun _ => G, fun _ => .slice none 0 0, fun _ => .slice none 0 0, fun x => if x = A then .disk else if x = B then .map else if x = G then .node 1 else .none⟩,
    ⟨⟨fun _ => 1, fun _ => 1, ⟨h0, h1, h2, h3, hfz, if_pos rfl, ?_, hm, fun i => ?_, count_new.symm, fun i hi => ?_, (fun i hi x hx => by simp [Value.ownBlock] at hx), (fun i hi x hx => by simp [Value.ownBlock] at hx), fun i hi => ?_, fun x hx => ?_⟩, inv_new, fun i hi => ?_, fun i hi => absurd hi (by unfold zp; omega),
      fun i hi => ⟨fun j hj => ?_, fun _ => rfl, fun h => by cases h⟩, by unfold smallD; rw [mass_new]; decide, fun _ _ => by decide⟩, noGarb_new, by rw [used_new]; exact hr, hr2⟩, fun x x1 x2 x3 => ?_⟩
  · show (if B = A then _ else if B = B then _ else _) = _
    rw [if_neg (fun e => hAB e.symm), if_pos rfl]
  · simp only [has_new, kvGet, List.find?_cons, List.find?_nil]
    by_cases e : i = 1
    · subst e; rfl
    · have : ¬ (1 : Int) = i := fun h => e h.symm
      simp [e, this]
  · have := (has_new i).1 hi
    subst this
    show (if G = A then _ else if G = B then _ else if G = G then _ else _) = _
    rw [if_neg (fun e => hAG e.symm), if_neg (fun e => hBG e.symm), if_pos rfl]
  · have := (has_new i).1 hi
    subst this
    rw [nd_new, if_pos rfl]
    exact hN
  · show (if x = A then _ else if x = B then _ else if x = G then _ else _) = _
    have e1 := lt_of_cell h0
    have e2 := hm.lt
    have e3 := hN.lt
    simp only at e1
    rw [if_neg (by omega), if_neg (by omega), if_neg (by omega)]
  · have := (has_new i).1 hi
    subst this
    have := cnt_new 1
    unfold links zp
    rw [this]; rfl
  · obtain ⟨_, e, h, _⟩ := hj
    rw [ents_new] at h; cases h
  · show (if x = A then _ else if x = B then _ else if x = G then _ else _) = _
    rw [if_neg x1, if_neg x2, if_neg x3]

/-- A disk that a law holds: made behind W, nothing of W turned. -/
structure Here (W : World) (R : RD) (w : World) (a : Nat) (d : Nds) (room : Int) : Prop where
  disk : IsDisk R w a d room
  keeps : Keeps NoB W w
  tag : ∀ x, x < W.heap.size → R.tag x = .none

def HereTo (W w : World) (a : Nat) (d : Nds) (room : Int) : Prop := ∃ R, Here W R w a d room

theorem Here.to {W : World} {R : RD} {w w' : World} {a : Nat} {d d' : Nds} {room : Int} (h : Here W R w a d room) (t : DiskTo R w a d' room w') : HereTo W w' a d' room := by
  obtain ⟨R', h1, h2⟩ := t
  have hs := h.keeps.size
  refine ⟨R', h1, h.keeps.step h2.keeps (fun g hg => ?_), fun x hx => by rw [h2.same x (by omega)]; exact h.tag x hx⟩
  by_cases hl : g < W.heap.size
  · exact absurd (h.tag g hl) hg
  · exact .inr (by omega)

theorem Here.on {W : World} {R : RD} {w w' : World} {a : Nat} {d : Nds} {room : Int} (h : Here W R w a d room) (k : Keeps NoB w w') : Here W R w' a d room := ⟨h.disk.keepN k, h.keeps.trans k, h.tag⟩

theorem HereTo.base {W w1 w : World} {a : Nat} {d : Nds} {room : Int} (h : HereTo w1 w a d room) (k : Keeps NoB W w1) : HereTo W w a d room := by
  obtain ⟨R, h1, h2, h3⟩ := h
  have := k.size
  exact ⟨R, h1, k.trans h2, fun x hx => h3 x (by omega)⟩

theorem HereTo.on {W w w' : World} {a : Nat} {d : Nds} {room : Int} (h : HereTo W w a d room) (k : Keeps NoB w w') : HereTo W w' a d room := by
  obtain ⟨R, h⟩ := h
  exact ⟨R, h.on k⟩

theorem HereTo.keeps {W w : World} {a : Nat} {d : Nds} {room : Int} (h : HereTo W w a d room) : Keeps NoB W w := by
  obtain ⟨R, h⟩ := h
  exact h.keeps

theorem IsDisk.top {R : RD} {w : World} {a : Nat} {d : Nds} {room : Int} (h : IsDisk R w a d room) : ∀ x, R.F x → x < w.heap.size := fun x hx => by
  obtain ⟨⟨lk, up, hC⟩, _, _, _⟩ := h
  by_cases hl : x < w.heap.size
  · exact hl
  · exact absurd (hC.rep.top x (by omega)) hx

/-- A call of a disk that was at rest in w, made in wx: what came between stays. -/
theorem Here.call {W : World} {R : RD} {w wx w' : World} {a : Nat} {d d' : Nds} {room : Int} (h : Here W R w a d room) (k : Keeps NoB w wx) (t : DiskTo R wx a d' room w') :
    HereTo W w' a d' room ∧ Keeps (fun g => g < w.heap.size) wx w' := by
  refine ⟨(h.on k).to t, ?_⟩
  obtain ⟨R', _, h2⟩ := t
  exact h2.keeps.mono (fun x _ hx => h.disk.top x hx)

theorem new_end {w w5 : World} {room : Int} (hr : 0 ≤ room) (hr2 : room ≤ 9223372036854775807) (T1 T2 : TypeId) {G : Nat} (hG : G = w.heap.size + 2) (hm5 : IMap w5 w.heap.size [(1, .pointer (some ⟨G, 0, none⟩))])
    (hk5 : Keeps (fun g => g = w.heap.size) (((w.alloc (.map #[] 0)).alloc (.cells #[.map (some w.heap.size), .int .i64 2, .int .i64 0, .int .i64 room] T1)).alloc (.cells #[.int .i64 2, .int .i64 493, .int .i64 1, .int .i64 0, .slice none 0 0, .slice none 0 0, .int .i64 1] T2)) w5) :
    HereTo w w5 (w.heap.size + 1) newD room := by
  subst hG
  have s1 : (w.alloc (.map #[] 0)).heap.size = w.heap.size + 1 := by simp
  have s2 : ((w.alloc (.map #[] 0)).alloc (.cells #[.map (some w.heap.size), .int .i64 2, .int .i64 0, .int .i64 room] T1)).heap.size = w.heap.size + 2 := by simp
  have n1 := heap_alloc_new (w.alloc (.map #[] 0)) (.cells #[.map (some w.heap.size), .int .i64 2, .int .i64 0, .int .i64 room] T1)
  have n2 := heap_alloc_new ((w.alloc (.map #[] 0)).alloc (.cells #[.map (some w.heap.size), .int .i64 2, .int .i64 0, .int .i64 room] T1)) (.cells #[.int .i64 2, .int .i64 493, .int .i64 1, .int .i64 0, .slice none 0 0, .slice none 0 0, .int .i64 1] T2)
  rw [s1] at n1
  rw [s2] at n2
  have n1' := (Below.heap_alloc ((w.alloc (.map #[] 0)).alloc (.cells #[.map (some w.heap.size), .int .i64 2, .int .i64 0, .int .i64 room] T1)) (.cells #[.int .i64 2, .int .i64 493, .int .i64 1, .int .i64 0, .slice none 0 0, .slice none 0 0, .int .i64 1] T2) (w.heap.size + 1) (by omega)).trans n1
  have k0 : Keeps NoB w (((w.alloc (.map #[] 0)).alloc (.cells #[.map (some w.heap.size), .int .i64 2, .int .i64 0, .int .i64 room] T1)).alloc (.cells #[.int .i64 2, .int .i64 493, .int .i64 1, .int .i64 0, .slice none 0 0, .slice none 0 0, .int .i64 1] T2)) := (((Keeps.refl NoB w).alloc _).alloc _).alloc _
  have s3 : (((w.alloc (.map #[] 0)).alloc (.cells #[.map (some w.heap.size), .int .i64 2, .int .i64 0, .int .i64 room] T1)).alloc (.cells #[.int .i64 2, .int .i64 493, .int .i64 1, .int .i64 0, .slice none 0 0, .slice none 0 0, .int .i64 1] T2)).heap.size = w.heap.size + 3 := by simp
  have b1 := (hk5.block (w.heap.size + 1) (by omega) (by omega)).trans n1'
  have b2 := (hk5.block (w.heap.size + 2) (by omega) (by omega)).trans n2
  have hA : ∀ j v, (#[.map (some w.heap.size), .int .i64 2, .int .i64 0, .int .i64 room] : Array Value)[j]? = some v → w5.cell? ⟨w.heap.size + 1, j, none⟩ = some v := fun j v hv => by
    rw [cell_of_row w5 _ j _ T1 (0, 0) b1]; exact hv
  have hB : ∀ j v, (#[.int .i64 2, .int .i64 493, .int .i64 1, .int .i64 0, .slice none 0 0, .slice none 0 0, .int .i64 1] : Array Value)[j]? = some v → w5.cell? ⟨w.heap.size + 2, j, none⟩ = some v := fun j v hv => by
    rw [cell_of_row w5 _ j _ T2 (0, 0) b2]; exact hv
  have hN : NodeAt w5 (w.heap.size + 2) (.slice none 0 0) (.slice none 0 0) rootNd 1 1 :=
    ⟨hB 0 _ rfl, hB 1 _ rfl, hB 2 _ rfl, hB 3 _ rfl, hB 4 _ rfl, OwnB.nil _ _, ⟨hB 5 _ rfl, frozen_of_row w5 _ 5 _ T2 b2, rfl, Own.nil _ _ _ _, List.Pairwise.nil, (fun _ h => by cases h), (fun h => by simp [Value.ownBlock] at h)⟩, hB 6 _ rfl, fun j => frozen_of_row w5 _ j _ T2 b2⟩
  obtain ⟨R, hD, hT⟩ := disk_new (A := w.heap.size + 1) (hA 0 _ rfl) (hA 1 _ rfl) (hA 2 _ rfl) (hA 3 _ rfl) (fun j => frozen_of_row w5 _ j _ T1 b1) hm5 hN (by omega) (by omega) (by omega) hr hr2
  exact ⟨R, hD, k0.step hk5 (fun g hg => .inr (by omega)), fun x hx => hT x (by omega) (by omega) (by omega)⟩

theorem new_any (w : World) (room : Int) (hr2 : room ≤ 9223372036854775807) :
    Calls Tryd.prog 12 #[.int .i64 room] w fun e w' => if room < 0 then e = .returned (.tuple #[.pointer none, .int .i64 10]) ∧ w = w' else
      ∃ a, e = .returned (.tuple #[.pointer (some ⟨a, 0, none⟩), .int .i64 0]) ∧ HereTo w w' a newD room := by
  by_cases hr : room < 0
  · simp only [if_pos hr]
    go_enter Tryd.func12, Tryd.ntmps12
    go_wp2
    go_ret2
    exact ⟨rfl, rfl⟩
  · simp only [if_neg hr]
    have hmk : ∀ wx : World, (Instr.makeMap 72 none).run Tryd.prog wx = .ok (.map (some wx.heap.size)) (wx.alloc (.map #[] 0)) := fun _ => rfl
    go_enter Tryd.func12, Tryd.ntmps12
    go_wp2_with (at_mapUpdate; refine wpl_mapUpdate rfl (.tmp 14) (.const (.int .i64 1)) (.tmp 16) _ rfl Tryd.underlying72 Tryd.underlying3 rfl (((IMap.made w).keep ((Keeps.refl NoB _).alloc _) (fun h => h)).keep ((Keeps.refl NoB _).alloc _) (fun h => h)) rfl rfl rfl ?_; intro w5 hm5 hk5)
    go_ret2
    exact ⟨_, rfl, new_end hr hr2 _ _ (by simp) hm5 hk5⟩

end Go.Proofs.YtfomkkoecelakaaDoor
