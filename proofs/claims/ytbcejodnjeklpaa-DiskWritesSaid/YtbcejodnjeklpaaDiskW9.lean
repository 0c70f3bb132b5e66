/-
  Contracts of package disk, the ninth part: Enter.
-/
import Derived.Test.YtbcejodnjeklpaaDiskW7
import Derived.Test.YtbcejodnjeklpaaDiskQ3
namespace Go.Proofs.Ytbcejodnjeklpaa
open Go.RowKit
set_option maxRecDepth 100000
set_option maxHeartbeats 1000000

def enterErr (d : Nds) (room i : Int) (name : ByteArray) (k : Int) : Int :=
  if folderErr d i ≠ 0 then folderErr d i else if (nd d k).kind = 0 then 12 else if (nd d k).kind = 2 ∧ 0 < links d k then 22 else if 32768 ≤ links d k then 24
  else if putErr (nd d i).ents name ≠ 0 then putErr (nd d i).ents name else if room - used d < name.size then 20 else 0
def enterD (d : Nds) (room i : Int) (name : ByteArray) (k : Int) : Nds := if enterErr d room i name k = 0 then enterTo d i name k else d

section
variable {R : RD} {w : World} {a : Nat} {d : Nds} {room : Int} {lk up : Int → Int}

theorem Rep.turnA {R1 : RD} {w1 w2 : World} {d' : Nds} {us : Int} (h : Rep R1 w1 a d' room us lk up) (hT : Turn R w R1 w1) (k : Keeps (fun x => x = a) w1 w2) : Turn R w R1 w2 :=
  hT.trans (Turn.of (k.mono (fun x _ hx => by subst hx; exact h.fA)))

/-- Behind Put, where there is room. -/
theorem enter_facts {i k : Int} {name : ByteArray} {w1 : World} (hC : Casc R w a d room lk up zp) (hcl : NoGarb d) (hmax : room ≤ 9223372036854775807) (hi : (nd d i).kind = 2) (hk : has d k) (hkl : (nd d k).kind = 2 → links d k = 0)
    (hp : putErr (nd d i).ents name = 0) (hno : (nd d k).kind = 2 → ¬ Above d k i) (hb : mass d + 1 ≤ 2147483648) (hfit : (used d : Int) + name.size ≤ room) (hsz : name.size ≤ 4294967296) (ht : DTo w w1 ⟨R.g i, 5, none⟩ (R.ev i) (putTo (nd d i).ents name k)) :
    Calls Try.prog 36 #[.pointer (some ⟨a, 0, none⟩), .int .i64 name.size] w1 fun e w2 => e = .returned (.bool true) ∧ w2.cell? ⟨R.g k, 0, none⟩ = some (.int .i64 (nd d k).kind) ∧ w2.cell? ⟨R.g k, 2, none⟩ = some (.int .i64 (links d k)) ∧ w2.cell? ⟨R.g k, 6, none⟩ = some (.int .i64 (up k)) ∧
      w2.frozen? ⟨R.g k, 2, none⟩ = false ∧ w2.frozen? ⟨R.g k, 6, none⟩ = false ∧
      DiskTo R w a (enterTo d i name k) room (if (nd d k).kind = 2 then (w2.setCell ⟨R.g k, 2, none⟩ (.int .i64 ((links d k : Int) + 1))).setCell ⟨R.g k, 6, none⟩ (.int .i64 i) else w2.setCell ⟨R.g k, 2, none⟩ (.int .i64 ((links d k : Int) + 1))) := by
  have hh := setE_pos hC.inv hi
  have hcnt := hC.cnt k hk
  have hlk : lk k = links d k := by rw [hcnt]; unfold zp; rfl
  rw [← hlk]
  rw [show putTo (nd d i).ents name k = entPut (nd d i).ents name k from if_pos hp] at ht
  obtain ⟨R1, hR1, hT1, hg1, hb1⟩ := hC.rep.setDir hh ht
  have hR1 : Rep R1 w1 a (enterTo d i name k) room (used d) lk up := hR1
  have hul := used_le2 hC.inv hC.small
  refine (take_any hR1 name.size (by omega) (by omega) hmax (by omega) (by omega)).mono fun e w2 ⟨h1, h2, h3⟩ => ?_
  rw [show (decide ((name.size : Int) ≤ room - used d)) = true from decide_eq_true (by omega)] at h1
  rw [show takeU room (used d) name.size = used d + name.size from if_pos (by omega)] at h2
  have hk1 : has (enterTo d i name k) k := (has_setE hh _ k).2 hk
  have hn := h2.node k hk1
  rw [hg1] at hn
  have hkind : (nd (enterTo d i name k) k).kind = (nd d k).kind := kind_setE hh _ k
  refine ⟨h1, by rw [hn.kind, hkind], hn.links, hn.up, hn.fz 2, hn.fz 6, ?_⟩
  have hT2 := hR1.turnA hT1 h3
  have hu := enter_used (k := k) hh hp
  have hR3 := h2.setLinks hk1 (lk k + 1)
  have hsm : smallD (enterTo d i name k) := by unfold smallD; rw [enter_mass hh hp]; omega
  have k1 : Keeps R1.F w2 (w2.setCell ⟨R1.g k, 2, none⟩ (.int .i64 (lk k + 1))) := (Keeps.refl _ _).setCell (.inl (h2.fN hk1)) _
  rw [← hg1]
  by_cases hk2 : (nd d k).kind = 2
  · rw [if_pos hk2]
    have hR4 := hR3.setUp hk1 i
    refine ⟨R1, IsDisk.enter hC hcl hi hk hkl hp hno ?_ hsm (by rw [hu]; omega) hmax, hT2.trans (Turn.of (k1.setCell (.inl (hR3.fN hk1)) _))⟩
    rw [if_pos hk2, hu]
    exact_mod_cast hR4
  · rw [if_neg hk2]
    refine ⟨R1, IsDisk.enter hC hcl hi hk hkl hp hno ?_ hsm (by rw [hu]; omega) hmax, hT2.trans (Turn.of k1)⟩
    rw [if_neg hk2, hu]
    exact_mod_cast hR3

/-- Behind Put, where there is none: Drop. -/
theorem enter_back {i k : Int} {name : ByteArray} {w1 : World} (hC : Casc R w a d room lk up zp) (hcl : NoGarb d) (hfit0 : (used d : Int) ≤ room) (hmax : room ≤ 9223372036854775807) (hi : (nd d i).kind = 2)
    (hp : putErr (nd d i).ents name = 0) (hfit : room - used d < name.size) (hsz : name.size ≤ 4294967296) (ht : DTo w w1 ⟨R.g i, 5, none⟩ (R.ev i) (putTo (nd d i).ents name k)) :
    Calls Try.prog 36 #[.pointer (some ⟨a, 0, none⟩), .int .i64 name.size] w1 fun e w2 => e = .returned (.bool false) ∧
      Calls Try.prog 52 #[.pointer (some ⟨R.g i, 5, none⟩), .string name] w2 fun e w3 => e = .returned (.int .i64 0) ∧ DiskTo R w a d room w3 := by
  have hh := setE_pos hC.inv hi
  obtain ⟨hok, hhas⟩ := putErr_zero.1 hp
  rw [show putTo (nd d i).ents name k = entPut (nd d i).ents name k from if_pos hp] at ht
  obtain ⟨R1, hR1, hT1, hg1, hb1⟩ := hC.rep.setDir hh ht
  have hR1 : Rep R1 w1 a (enterTo d i name k) room (used d) lk up := hR1
  have hul := used_le2 hC.inv hC.small
  refine (take_any hR1 name.size (by omega) (by omega) hmax (by omega) (by omega)).mono fun e w2 ⟨h1, h2, h3⟩ => ?_
  rw [show (decide ((name.size : Int) ≤ room - used d)) = false from decide_eq_false (by omega)] at h1
  rw [show takeU room (used d) name.size = used d from if_neg (by omega)] at h2
  have hi1 : has (enterTo d i name k) i := (has_setE hh _ i).2 hh
  have hents : (nd (enterTo d i name k) i).ents = entPut (nd d i).ents name k := by unfold enterTo; rw [ents_setE hh, if_pos rfl]
  have hn := (h2.node i hi1).dir
  have hlen := nd_ents_len hC.small i
  have hl2 := len_put (k := k) hhas
  rw [hg1, hents] at hn
  have hlen2 : (nd d i).ents.length ≤ 2147483648 := by
    have h1 := sumBy_ge mass1 (has_range hh).1 (has_range hh).2
    have := hC.small
    unfold smallD mass at this
    unfold mass1 at h1
    unfold mass1 at this
    omega
  refine ⟨h1, (drop_d w2 ⟨R.g i, 5, none⟩ (R1.ev i) _ name hn (by omega)).mono fun e w3 ⟨h4, h5⟩ => ?_⟩
  have hput : entHas (entPut (nd d i).ents name k) name = true := by rw [entHas_put hhas]; simp
  rw [show hasErr (entPut (nd d i).ents name k) name = 0 by unfold hasErr; rw [if_pos hput]] at h4
  rw [entDel_put (hC.inv.node i).rising hhas] at h5
  rw [← hg1] at h5
  obtain ⟨R3, hR3, hT3, _, _⟩ := h2.setDir hi1 h5
  have hd : upd (enterTo d i name k) i ((nd (enterTo d i name k) i).setEnts (nd d i).ents) = d := by
    show setE (setE d i (entPut (nd d i).ents name k)) i (nd d i).ents = d
    rw [setE_setE hh, setE_self hh]
  rw [hd] at hR3
  exact ⟨h4, R3, ⟨⟨lk, up, hC.re hR3⟩, hcl, hfit0, hmax⟩, (hR1.turnA hT1 h3).trans hT3⟩

/-- Behind a Put that fails. -/
theorem enter_same {i k : Int} {name : ByteArray} {w1 : World} (hC : Casc R w a d room lk up zp) (hcl : NoGarb d) (hfit0 : (used d : Int) ≤ room) (hmax : room ≤ 9223372036854775807) (hi : (nd d i).kind = 2)
    (hp : putErr (nd d i).ents name ≠ 0) (ht : DTo w w1 ⟨R.g i, 5, none⟩ (R.ev i) (putTo (nd d i).ents name k)) : DiskTo R w a d room w1 := by
  have hh := setE_pos hC.inv hi
  rw [show putTo (nd d i).ents name k = (nd d i).ents from if_neg hp] at ht
  obtain ⟨R1, hR1, hT1, hg1, hb1⟩ := hC.rep.setDir hh ht
  rw [show upd d i ((nd d i).setEnts (nd d i).ents) = d from setE_self hh] at hR1
  exact ⟨R1, ⟨⟨lk, up, hC.re hR1⟩, hcl, hfit0, hmax⟩, hT1⟩

theorem enterD_any (h : IsDisk R w a d room) (i : Int) (name : ByteArray) (k : Int) (hsz : name.size ≤ 4294967296) (hb : mass d + 1 ≤ 2147483648) (hno : folderErr d i = 0 → (nd d k).kind = 2 → ¬ Above d k i) :
    Calls Try.prog 34 #[.pointer (some ⟨a, 0, none⟩), .int .i64 i, .string name, .int .i64 k] w fun e w' => e = .returned (.int .i64 (enterErr d room i name k)) ∧ DiskTo R w a (enterD d room i name k) room w' := by
  have H := Lib.hid h
  obtain ⟨⟨lk, up, hC⟩, hcl, hfit, hmax⟩ := h
  have hf := folder_any hC.rep i
  unfold enterD
  by_cases c0 : folderErr d i = 0
  case neg =>
    have e : enterErr d room i name k = folderErr d i := if_pos c0
    rw [e, if_neg c0]
    have hp : ptrIf R (folderErr d i) i = .pointer none := if_neg c0
    rw [hp] at hf
    clear hC hcl hfit hmax e
    generalize folderErr d i = er at *
    go_enter Try.func34, Try.ntmps34
    go_wp2_with (go_at_call 56; refine hf.mono ?_; rintro e w1 ⟨rfl, rfl⟩)
    go_ret
    exact ⟨rfl, H.out.same (Keeps.refl _ _)⟩
  case pos =>
  obtain ⟨hi, hk1⟩ := folderErr_zero c0
  rw [c0] at hf
  have hp : ptrIf R 0 i = .pointer (some ⟨R.g i, 0, none⟩) := rfl
  rw [hp] at hf
  have hl := hC.rep.l
  have hlook := hC.rep.look k
  unfold nodeV at hlook
  have hE0 : ∀ (P : Int → Prop), P (if (nd d k).kind = 0 then 12 else if (nd d k).kind = 2 ∧ 0 < links d k then 22 else if 32768 ≤ links d k then 24
      else if putErr (nd d i).ents name ≠ 0 then putErr (nd d i).ents name else if room - used d < name.size then 20 else 0) → P (enterErr d room i name k) := fun P hP => by
    unfold enterErr; rw [if_neg (by simpa using c0)]; exact hP
  by_cases hk : has d k
  case neg =>
    rw [if_neg hk] at hlook
    have e : enterErr d room i name k = 12 := hE0 (fun x => x = 12) (if_pos (not_has hk))
    rw [e, if_neg (by decide)]
    clear hC hcl hfit hmax e hE0
    go_enter Try.func34, Try.ntmps34
    go_wp2_with (go_at_call 56; refine hf.mono ?_; rintro e w1 ⟨rfl, rfl⟩)
    go_ret
    exact ⟨rfl, H.out.same (Keeps.refl _ _)⟩
  case pos =>
  rw [if_pos hk] at hlook
  have hk0 : ¬ (nd d k).kind = 0 := hk
  have hE1 : ∀ (P : Int → Prop), P (if (nd d k).kind = 2 ∧ 0 < links d k then 22 else if 32768 ≤ links d k then 24
      else if putErr (nd d i).ents name ≠ 0 then putErr (nd d i).ents name else if room - used d < name.size then 20 else 0) → P (enterErr d room i name k) := fun P hP => hE0 P (by rw [if_neg hk0]; exact hP)
  have hn := hC.rep.node k hk
  have c1 := hn.kind
  have c2 := hn.links
  have hcnt := hC.cnt k hk
  have hlk : lk k = links d k := by rw [hcnt]; unfold zp; rfl
  rw [hlk] at c2
  by_cases d1 : (nd d k).kind = 2 ∧ 0 < links d k
  · have e : enterErr d room i name k = 22 := hE1 (fun x => x = 22) (if_pos d1)
    rw [e, if_neg (by decide)]
    obtain ⟨d2, d3⟩ := d1
    rw [d2] at c1
    have d3' : (0 : Int) < (links d k : Int) := by omega
    clear hC hcl hfit hmax e hE0 hE1 hn hcnt hlk hk0 hno d2 d3
    generalize (links d k : Int) = lks at *
    go_enter Try.func34, Try.ntmps34
    go_wp2_with (go_at_call 56; refine hf.mono ?_; rintro e w1 ⟨rfl, rfl⟩)
    go_ret
    exact ⟨rfl, H.out.same (Keeps.refl _ _)⟩
  have hE2 : ∀ (P : Int → Prop), P (if 32768 ≤ links d k then 24
      else if putErr (nd d i).ents name ≠ 0 then putErr (nd d i).ents name else if room - used d < name.size then 20 else 0) → P (enterErr d room i name k) := fun P hP => hE1 P (by rw [if_neg d1]; exact hP)
  have d1' : (nd d k).kind ≠ 2 ∨ ((nd d k).kind = 2 ∧ (links d k : Int) = 0) := by
    by_cases e2 : (nd d k).kind = 2
    · exact .inr ⟨e2, by have := Nat.eq_zero_of_not_pos (fun h => d1 ⟨e2, h⟩); omega⟩
    · exact .inl e2
  have hlen := nd_ents_len hC.small i
  have hdir := (hC.rep.node i hi).dir
  have hput := Lib.hid (put_d w ⟨R.g i, 5, none⟩ (R.ev i) (nd d i).ents name k hdir (by omega))
  by_cases d2 : 32768 ≤ links d k
  · have e : enterErr d room i name k = 24 := hE2 (fun x => x = 24) (if_pos d2)
    rw [e, if_neg (by decide)]
    have d2' : (links d k : Int) ≥ 32768 := by omega
    have d3 : (nd d k).kind ≠ 2 := d1'.elim id (fun h => by have := h.2; omega)
    clear hC hcl hfit hmax e hE0 hE1 hE2 hn hcnt hlk hk0 hno d1 d1' d2 hput hdir hlen
    generalize (links d k : Int) = lks at *
    go_enter Try.func34, Try.ntmps34
    go_wp2_with (go_at_call 56; refine hf.mono ?_; rintro e w1 ⟨rfl, rfl⟩)
    go_ret
    exact ⟨rfl, H.out.same (Keeps.refl _ _)⟩
  have hE3 : ∀ (P : Int → Prop), P (if putErr (nd d i).ents name ≠ 0 then putErr (nd d i).ents name else if room - used d < name.size then 20 else 0) → P (enterErr d room i name k) := fun P hP => hE2 P (by rw [if_neg d2]; exact hP)
  have d2' : ¬ (32768 ≤ (links d k : Int)) := by omega
  have d2'' : (32768 ≤ (links d k : Int)) = False := by simp; omega
  by_cases d3 : putErr (nd d i).ents name = 0
  case neg =>
    have e : enterErr d room i name k = putErr (nd d i).ents name := hE3 (fun x => x = putErr (nd d i).ents name) (if_pos d3)
    rw [e, if_neg d3]
    have HP := Lib.hid (fun (w1 : World) => enter_same (w1 := w1) (k := k) hC hcl hfit hmax hk1 d3)
    clear hC hcl hfit hmax e hE0 hE1 hE2 hE3 hn hcnt hlk hk0 hno d1 d2 hdir hlen
    generalize putErr (nd d i).ents name = pe at *
    generalize (links d k : Int) = lks at *
    rcases d1' with d4 | ⟨d4, d5⟩
    case' inl => generalize (nd d k).kind = kd at *
    case' inr => rw [d4] at c1; subst d5
    all_goals
      go_enter Try.func34, Try.ntmps34
      go_wp2_with (first | (go_at_call 56; refine hf.mono ?_; rintro e w1 ⟨rfl, rfl⟩) | (go_at_call 71; refine hput.out.mono ?_; rintro e w1 ⟨rfl, ht⟩))
      go_ret
      exact ⟨rfl, HP.out w1 ht⟩
  case pos =>
  have hE4 : ∀ (P : Int → Prop), P (if room - used d < name.size then 20 else 0) → P (enterErr d room i name k) := fun P hP => hE3 P (by rw [if_neg (by simpa using d3)]; exact hP)
  rw [d3] at hput
  have hkl : (nd d k).kind = 2 → links d k = 0 := fun e => d1'.elim (fun h => absurd e h) (fun h => by have := h.2; omega)
  by_cases d4 : room - used d < name.size
  · have e : enterErr d room i name k = 20 := hE4 (fun x => x = 20) (if_pos d4)
    rw [e, if_neg (by decide)]
    have HP := Lib.hid (fun (w1 : World) => enter_back (w1 := w1) (k := k) hC hcl hfit hmax hk1 d3 d4 hsz)
    clear hC hcl hfit hmax e hE0 hE1 hE2 hE3 hE4 hn hcnt hlk hk0 hno d1 d2 hdir hlen hkl d4 d3
    generalize (links d k : Int) = lks at *
    rcases d1' with d4 | ⟨d4, d5⟩
    case' inl => generalize (nd d k).kind = kd at *
    case' inr => rw [d4] at c1; subst d5
    all_goals
      go_enter Try.func34, Try.ntmps34
      go_wp2_with (first | (go_at_call 56; refine hf.mono ?_; rintro e w1 ⟨rfl, rfl⟩) | (go_at_call 71; refine hput.out.mono ?_; rintro e w1 ⟨rfl, ht⟩) | (go_at_call 36; refine (HP.out _ ht).mono ?_; rintro e w2 ⟨rfl, hdr⟩) | (go_at_call 52; refine hdr.mono ?_; rintro e w3 ⟨rfl, hend⟩))
      go_ret
      exact ⟨rfl, hend⟩
  · have e : enterErr d room i name k = 0 := hE4 (fun x => x = 0) (if_neg d4)
    rw [e, if_pos rfl]
    have HP := Lib.hid (fun (w1 : World) => enter_facts (w1 := w1) hC hcl hmax hk1 hk hkl d3 (hno c0) hb (by omega) hsz)
    clear hC hcl hfit hmax e hE0 hE1 hE2 hE3 hE4 hn hcnt hlk hk0 hno d1 d2 hdir hlen hkl d4 d3 hb
    have hwr : wrap64 ((links d k : Int) + 1) = (links d k : Int) + 1 := IntWalk.wrap64_in _ (by omega)
    generalize (links d k : Int) = lks at *
    rcases d1' with d4 | ⟨d4, d5⟩
    case' inl => generalize (nd d k).kind = kd at *
    case' inr => rw [d4] at c1 HP; subst d5
    all_goals
      go_enter Try.func34, Try.ntmps34
      go_wp2_with (first | (go_at_call 56; refine hf.mono ?_; rintro e w1 ⟨rfl, rfl⟩) | (go_at_call 71; refine hput.out.mono ?_; rintro e w1 ⟨rfl, ht⟩) | (go_at_call 36; refine (HP.out _ ht).mono ?_; rintro e w2 ⟨rfl, f0, f2, f6, z2, z6, hend⟩; have HEn := Lib.hid hend; clear hend))
      go_ret
      refine ⟨rfl, ?_⟩
      have hz := HEn.out
      first | (rw [if_neg d4] at hz; exact hz) | (rw [if_pos trivial] at hz; exact hz)

end

end Go.Proofs.Ytbcejodnjeklpaa
