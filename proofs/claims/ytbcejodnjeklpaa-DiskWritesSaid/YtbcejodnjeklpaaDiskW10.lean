/-
  Contracts of package disk, the tenth part: Leave.
-/
import Derived.Test.YtbcejodnjeklpaaDiskW9
namespace Go.Proofs.Ytbcejodnjeklpaa
open Go.RowKit
set_option maxRecDepth 100000
set_option maxHeartbeats 1000000

def leaveErr (d : Nds) (i : Int) (name : ByteArray) : Int := if lookErr d i name ≠ 0 then lookErr d i name else if (nd d (lookOf d i name)).ents ≠ [] then 16 else 0
noncomputable def leaveTo (d : Nds) (i : Int) (name : ByteArray) : Nds := if leaveErr d i name = 0 then gc (dropTo d i name) else d

section
variable {R : RD} {w : World} {a : Nat} {d : Nds} {room : Int} {lk up : Int → Int}

theorem lookErr_zero {d : Nds} {i : Int} {name : ByteArray} (h : lookErr d i name = 0) : folderErr d i = 0 ∧ entGet (nd d i).ents name = some (lookOf d i name) := by
  unfold lookErr at h
  unfold lookOf
  split at h
  · next e => exact absurd h e
  · next e =>
    split at h
    · next e2 =>
      obtain ⟨k, hk⟩ := Option.isSome_iff_exists.1 e2
      rw [if_neg e, hk]
      exact ⟨Classical.not_not.1 e, rfl⟩
    · cases h

/-- Behind Drop: the room, and less. -/
theorem leave_facts {i k : Int} {name : ByteArray} {w0 w1 : World} (hC : Casc R w0 a d room lk up zp) (hcl : NoGarb d) (hfit : (used d : Int) ≤ room) (hmax : room ≤ 9223372036854775807) (hi : (nd d i).kind = 2)
    (hg : entGet (nd d i).ents name = some k) (ht : DTo w0 w1 ⟨R.g i, 5, none⟩ (R.ev i) (entDel (nd d i).ents name)) :
    w1.cell? ⟨a, 2, none⟩ = some (.int .i64 (used d)) ∧ w1.frozen? ⟨a, 2, none⟩ = false ∧
    Calls Try.prog 53 #[.pointer (some ⟨a, 0, none⟩), .int .i64 k] (w1.setCell ⟨a, 2, none⟩ (.int .i64 ((used d : Int) - name.size))) fun e w2 => e = .returned (.tuple #[]) ∧ DiskTo R w0 a (gc (dropTo d i name)) room w2 := by
  have hh := setE_pos hC.inv hi
  obtain ⟨R1, hR1, hT1, hg1, hb1⟩ := hC.rep.setDir hh ht
  have hR1 : Rep R1 w1 a (dropTo d i name) room (used d) lk up := hR1
  have hu := drop_used hC.inv hh hg
  have hR2 := hR1.setUsed ((used d : Int) - name.size)
  have e : (used d : Int) - name.size = (used (dropTo d i name) : Nat) := by omega
  rw [e] at hR2 ⊢
  obtain ⟨hC2, hno⟩ := hC.drop hcl hi hg hR2
  refine ⟨hR1.used, hR1.fz 2, (less_ok _ R1 _ a (dropTo d i name) room lk up (onePend k) k rfl hC2 (onePend_pos k) hno).mono ?_⟩
  rintro e w2 ⟨rfl, R', d', lk', up', h1, h2, h3, h4⟩
  rw [decAt_onePend] at h1 h2
  have hT2 : Turn R w0 R1 (w1.setCell ⟨a, 2, none⟩ (.int .i64 (used (dropTo d i name) : Nat))) := hT1.trans (Turn.of ((Keeps.refl R1.F w1).setCell (p := ⟨a, 2, none⟩) (.inl hR1.fA) _))
  exact ⟨rfl, R', free_end h1 h2 h3 (by omega) hmax, hT2.trans h4⟩

theorem leaveD_any (h : IsDisk R w a d room) (i : Int) (name : ByteArray) :
    Calls Try.prog 21 #[.pointer (some ⟨a, 0, none⟩), .int .i64 i, .string name] w fun e w' => e = .returned (.int .i64 (leaveErr d i name)) ∧ DiskTo R w a (leaveTo d i name) room w' := by
  have H := Lib.hid h
  obtain ⟨⟨lk, up, hC⟩, hcl, hfit, hmax⟩ := h
  have hlen := nd_ents_len hC.small
  have hl0 := look_any hC.rep i name (hlen i)
  unfold leaveTo
  by_cases c0 : lookErr d i name = 0
  case neg =>
    have e : leaveErr d i name = lookErr d i name := if_pos c0
    rw [e, if_neg c0]
    clear hC hcl hfit hmax e
    generalize lookErr d i name = er at *
    generalize lookOf d i name = k at *
    go_enter Try.func21, Try.ntmps21
    go_wp2_with (go_at_call 26; refine hl0.mono ?_; rintro e w1 ⟨rfl, hk⟩)
    go_ret
    exact ⟨rfl, H.out.same hk⟩
  case pos =>
  obtain ⟨f0, hget⟩ := lookErr_zero c0
  have hE : ∀ (P : Int → Prop), P (if (nd d (lookOf d i name)).ents ≠ [] then 16 else 0) → P (leaveErr d i name) := fun P hP => by
    unfold leaveErr; rw [if_neg (by simpa using c0)]; exact hP
  rw [c0] at hl0
  generalize hkk : lookOf d i name = k at *
  obtain ⟨hi, hi2⟩ := folderErr_zero f0
  have hk := (hC.inv.tgt i _ (entGet_mem hget)).1
  have HL := Lib.hid (fun (w1 : World) (hk1 : Keeps NoB w w1) => (⟨(hC.rep.keepN hk1).l, (hC.rep.keepN hk1).look k, (hC.rep.keepN hk1).look i, ((hC.rep.keepN hk1).node k hk).kind⟩ : _ ∧ _ ∧ _ ∧ _))
  unfold nodeV at HL
  rw [if_pos hk, if_pos hi] at HL
  have hflat := (hC.inv.node k).flat
  have hlenK := Lib.hid (fun (w1 : World) (hk1 : Keeps NoB w w1) => len_any (fun _ => True) w1 ⟨R.g k, 5, none⟩ (R.ev k) (nd d k).ents (((hC.rep.keepN hk1).node k hk).dir.any (fun _ _ => trivial)))
  have hul := used_le2 hC.inv hC.small
  have hdrop := Lib.hid (fun (w1 : World) (hk1 : Keeps NoB w w1) => drop_d w1 ⟨R.g i, 5, none⟩ (R.ev i) (nd d i).ents name ((hC.rep.keepN hk1).node i hi).dir (by have := hlen i; omega))
  have hus : name.size ≤ used d := by
    have := drop_used hC.inv hi hget
    omega
  have HP := Lib.hid (fun (w1 w2 : World) (hk1 : Keeps NoB w w1) => leave_facts (w0 := w1) (w1 := w2) (hC.keep hk1 (fun _ _ h => h.elim)) hcl hfit hmax hi2 hget)
  have hhas : hasErr (nd d i).ents name = 0 := by unfold hasErr; rw [if_pos (entGet_has hget)]
  rw [hhas] at hdrop
  by_cases d1 : (nd d k).ents = []
  case neg =>
    have e : leaveErr d i name = 16 := hE (fun x => x = 16) (if_pos d1)
    rw [e, if_neg (by decide)]
    have k2 : (nd d k).kind = 2 := Classical.byContradiction (fun h => d1 (hflat h))
    rw [k2] at HL
    have hpos : (0 : Int) < (nd d k).ents.length := by
      have := List.length_pos_iff.2 d1
      omega
    clear hC hcl hfit hmax e hE hflat hul hdrop hus HP hlen hhas d1
    generalize ((nd d k).ents.length : Int) = ln at *
    go_enter Try.func21, Try.ntmps21
    go_wp2_with (first | (go_at_call 26; refine hl0.mono ?_; rintro e w1 ⟨rfl, hk1⟩; obtain ⟨l1, l2, l3, l4⟩ := HL.out w1 hk1) | (go_at_call 51; refine (hlenK.out _ hk1).mono ?_; rintro e w2 ⟨rfl, rfl⟩))
    go_ret
    exact ⟨rfl, H.out.same hk1⟩
  case pos =>
    have e : leaveErr d i name = 0 := hE (fun x => x = 0) (if_neg (by simpa using d1))
    rw [e, if_pos rfl]
    rw [d1] at hlenK
    have hwr : wrap64 ((used d : Int) - name.size) = (used d : Int) - name.size := IntWalk.wrap64_in _ (by omega)
    clear hC hcl hfit hmax e hE hflat hul hlen hhas d1 hus
    generalize (used d : Int) = us at *
    by_cases k2 : (nd d k).kind = 2
    case' pos => rw [k2] at HL
    case' neg => generalize (nd d k).kind = kd at *
    all_goals
      go_enter Try.func21, Try.ntmps21
      go_wp2_with (first | (go_at_call 26; refine hl0.mono ?_; rintro e w1 ⟨rfl, hk1⟩; obtain ⟨l1, l2, l3, l4⟩ := HL.out w1 hk1) | (go_at_call 51; refine (hlenK.out _ hk1).mono ?_; rintro e w2 ⟨rfl, rfl⟩) | (go_at_call 52; refine (hdrop.out _ hk1).mono ?_; rintro e w2 ⟨rfl, ht⟩; obtain ⟨u1, u2, hless⟩ := HP.out _ _ hk1 ht; have HLs := Lib.hid hless; clear hless) | (go_at_call 53; refine HLs.out.mono ?_; rintro e w3 ⟨rfl, hend⟩))
      go_ret
      exact ⟨rfl, hend.after hk1⟩

end

end Go.Proofs.Ytbcejodnjeklpaa
