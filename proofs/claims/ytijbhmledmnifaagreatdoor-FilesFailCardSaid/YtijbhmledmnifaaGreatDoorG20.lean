/-
 Contracts of the reference for layer 4, the eleventh part: Move to a new name.
-/
import Derived.Test.YtijbhmledmnifaaGreatDoorG07
import Derived.Deep.RegionHeld3
import Derived.Test.YtijbhmledmnifaaGreatDoorG19
import Derived.Test.YtijbhmledmnifaaGreatDoorG04
import Derived.Test.YtijbhmledmnifaaGreatDoorG09
import Derived.StillTailTactics
import Derived.Test.YtijbhmledmnifaaGreatDoorG11
import Derived.Test.YtijbhmledmnifaaGreatDoorG15
import Derived.Test.YtijbhmledmnifaaGreatDoorG16
import Derived.Test.YtijbhmledmnifaaGreatDoorG18

set_option linter.unusedSimpArgs false
set_option linter.unusedVariables false
namespace Go.Proofs.YtijbhmledmnifaaGreatDoor
open Go.RowKit
set_option maxRecDepth 100000
set_option maxHeartbeats 2000000
section
variable {S : Nat -> Prop} {w : World} {p : Option Addr} {c : Nat} {d : Nds} {room : Int}
theorem wrap_move {u lo ln : Nat} (h : (u : Int) <= 9007199254740992) (h1 : lo <= 255) (h2 : ln <= 255) : wrap64 ((u : Int) + (lo : Int)) = (u : Int) + (lo : Int) ∧ wrap64 ((u : Int) + (lo : Int) - (ln : Int)) = (u : Int) + (lo : Int) - (ln : Int) :=
 ⟨IntWalk.wrap64_in _ (by omega), IntWalk.wrap64_in _ (by omega)⟩
theorem r4move_e6 (h : RefAt S w p c d) (hS : ∀ g, w.heap.size <= g -> S g) (hI : DInv d) (hs : smallD d) (f : Int) (name : ByteArray) (t : Int) (other : ByteArray) (k : Int) (hos : other.size <= maxLen) (c0 : lookErr d f name = 0) (hkk : lookOf d f name = k) (c1 : folderErr d t = 0) (htop : (nd d k).kind = 2 -> ¬ Above d k t)
  (hold : entGet (nd d t).ents other = none) (hp : putErr (nd d t).ents other ≠ 0) :
  Calls Tryz.prog 136 #[refV p c d room, .int .i64 f, .string name, .int .i64 t, .string other] w (RTo S w d room (putErr (nd d t).ents other)) := by
 have hcap := h.cap
 have hmax := h.max
 unfold maxLen at hmax
 obtain ⟨f0, hget⟩ := lookErr_zero c0
 rw [hkk] at hget
 obtain ⟨hf, hf2⟩ := folderErr_zero f0
 obtain ⟨ht, ht2⟩ := folderErr_zero c1
 have hk : has d k := (hI.tgt f _ (entGet_mem hget)).1
 have hk1 : k ≠ 1 := (hI.tgt f _ (entGet_mem hget)).2
 have hns : name.size <= 255 := okName_size ((hI.node f).names _ (entGet_mem hget))
 have HFo := Lib.hid (fun (w1 : World) (hk : Keeps NoB w w1) => r4folder_any (room := room) (h.keepN hk) hI.zero t)
 have HLk := Lib.hid (fun (w1 : World) (hk : Keeps NoB w w1) => r4look_any (room := room) (h.keepN hk) hI f name)
 have HLo := Lib.hid (fun (w1 : World) (hk : Keeps NoB w w1) => r4look_any (room := room) (h.keepN hk) hI t other)
 have HUs := Lib.hid (fun (w1 : World) (hk : Keeps NoB w w1) => r4used_any (room := room) (h.keepN hk) hI.zero (by have := hI.two; omega) hI hs)
 have HBe := Lib.hid (fun (h2 : (nd d k).kind = 2) (w1 : World) (hkx : Keeps NoB w w1) => r4below_says (room := room) (h.keepN hkx) hI hs t k ht2 hk1 false ⟨(fun h => by cases h), fun h => absurd h (htop h2)⟩)
 have e1 : lookErr d t other = 12 := by unfold lookErr; rw [if_neg (by simpa using c1), hold]; rfl
 have e2 : lookOf d t other = 0 := by unfold lookOf; rw [if_neg (by simpa using c1), hold]; rfl
 rw [c0, hkk] at HLk
 rw [c1] at HFo
 rw [e1, e2] at HLo
 have Hh := Lib.hid (fun (w1 : World) (hk : Keeps NoB w w1) => h.but2 hk)
 have B := rbox (w := w) (Keeps.refl NoB ((w.alloc (.cells #[.slice p d.length c, .int .i64 room] 35)).alloc (.cells #[.slice none 0 0, .int .i64 0] 35)))
 have helT := nd_ents_len hs t
 obtain ⟨F, T, K, g, off, q, q', m, m', rfl, rfl, rfl, hF, hT, hK, rfl, hSg, hsl, hsl', hg1, hc⟩ := move_rows h hf ht hk
 have HC := Lib.hid hc
 have hkd : ((nd d (K : Int)).kind = 2) ∨ ((nd d (K : Int)).kind ≠ 2) := Classical.em _
 have HPu := Lib.hid (fun (w1 : World) (hk1 : Keeps NoB w w1) => r3put_any S w1 q' m' (nd d (T : Int)).ents other (K : Int) (hsl'.keepN hk1) (hI.node (T : Int)).rising (by omega) (fun g hg => hS g (by have := hk1.size; omega)) hos)
 clear h hS hI hs hc hsl hsl' f0 hget c0 c1 hkk htop hf ht hk hk1 hf2 ht2 hold e1 e2 helT HUs hns
 generalize putErr (nd d (T : Int)).ents other = pe at *
 generalize putTo (nd d (T : Int)).ents other (K : Int) = pt at *
 generalize (nd d (F : Int)).ents = eF at *
 generalize (nd d (T : Int)).ents = eT at *
 unfold refV at *
 rcases hkd with hkd | hkd
 case' inl => rw [hkd] at HC; replace HBe := Lib.hid (HBe.out hkd); clear hkd
 case' inr => clear HBe; generalize (nd d (K : Int)).kind = ko at *
 all_goals
  go_enter Tryz.func136, Tryz.ntmps136
  go_wp2_with (first | (go_at_call 195; have HX := HLk; clear HLk; refine (HX.out _ B.keeps).mono ?_; clear HX; rintro e w1 ⟨rfl, hk1⟩; (try clear A0); (try clear A1); (try clear C0); (try clear C1); (try clear zA); (try clear zC); (try clear l0); (try clear l1); (try clear R0); (try clear R1); (try clear R2); (try clear R3); (try clear R4); (try clear hgl); (try clear Q0); (try clear T4); replace B := B.on hk1; clear hk1; have A0 := B.A0; have A1 := B.A1; have C0 := B.C0; have C1 := B.C1; have zA := B.zA; have zC := B.zC; have l0 : w.heap.size < w1.heap.size := Nat.lt_of_lt_of_le (by simp) B.size; have l1 : w.heap.size + 1 < w1.heap.size := B.size; obtain ⟨R0, R1, R2, R3, R4, hgl, Q0, T4⟩ := HC.out _ B.keeps) | (go_at_call 195; have HX := HLo; clear HLo; refine (HX.out _ B.keeps).mono ?_; clear HX; rintro e w1 ⟨rfl, hk1⟩; (try clear A0); (try clear A1); (try clear C0); (try clear C1); (try clear zA); (try clear zC); (try clear l0); (try clear l1); (try clear R0); (try clear R1); (try clear R2); (try clear R3); (try clear R4); (try clear hgl); (try clear Q0); (try clear T4); replace B := B.on hk1; clear hk1; have A0 := B.A0; have A1 := B.A1; have C0 := B.C0; have C1 := B.C1; have zA := B.zA; have zC := B.zC; have l0 : w.heap.size < w1.heap.size := Nat.lt_of_lt_of_le (by simp) B.size; have l1 : w.heap.size + 1 < w1.heap.size := B.size; obtain ⟨R0, R1, R2, R3, R4, hgl, Q0, T4⟩ := HC.out _ B.keeps) | (go_at_call 191; refine (HFo.out _ B.keeps).mono ?_; rintro e w1 ⟨rfl, hk1⟩; (try clear A0); (try clear A1); (try clear C0); (try clear C1); (try clear zA); (try clear zC); (try clear l0); (try clear l1); (try clear R0); (try clear R1); (try clear R2); (try clear R3); (try clear R4); (try clear hgl); (try clear Q0); (try clear T4); replace B := B.on hk1; clear hk1; have A0 := B.A0; have A1 := B.A1; have C0 := B.C0; have C1 := B.C1; have zA := B.zA; have zC := B.zC; have l0 : w.heap.size < w1.heap.size := Nat.lt_of_lt_of_le (by simp) B.size; have l1 : w.heap.size + 1 < w1.heap.size := B.size; obtain ⟨R0, R1, R2, R3, R4, hgl, Q0, T4⟩ := HC.out _ B.keeps) | (go_at_call 203; refine (HBe.out _ B.keeps).mono ?_; rintro e w1 ⟨rfl, hk1⟩; (try clear A0); (try clear A1); (try clear C0); (try clear C1); (try clear zA); (try clear zC); (try clear l0); (try clear l1); (try clear R0); (try clear R1); (try clear R2); (try clear R3); (try clear R4); (try clear hgl); (try clear Q0); (try clear T4); replace B := B.on hk1; clear hk1; have A0 := B.A0; have A1 := B.A1; have C0 := B.C0; have C1 := B.C1; have zA := B.zA; have zC := B.zC; have l0 : w.heap.size < w1.heap.size := Nat.lt_of_lt_of_le (by simp) B.size; have l1 : w.heap.size + 1 < w1.heap.size := B.size; obtain ⟨R0, R1, R2, R3, R4, hgl, Q0, T4⟩ := HC.out _ B.keeps) | (go_at_call 192; have HX := HPu; clear HPu; go_loud (refine (HX.out _ B.keeps).mono ?_); clear HX; rintro e w1 ⟨v2, rfl, -, hk1⟩; (try clear A0); (try clear A1); (try clear C0); (try clear C1); (try clear zA); (try clear zC); (try clear l0); (try clear l1); (try clear R0); (try clear R1); (try clear R2); (try clear R3); (try clear R4); (try clear hgl); (try clear Q0); (try clear T4); replace B := B.on hk1; clear hk1; have A0 := B.A0; have A1 := B.A1; have C0 := B.C0; have C1 := B.C1; have zA := B.zA; have zC := B.zC; obtain ⟨R0, R1, R2, R3, R4, hgl, Q0, T4⟩ := HC.out _ B.keeps))
  (try simp only [Exit.inBlock, Exit.then])
  refine bodyPost_ret (v := .tuple #[.agg #[.slice (some ⟨g, off, none⟩) d.length c, .int .i64 room], .int .i64 pe]) ?_ rfl ?_
  ·rw [results_cell_tmp rfl]
   go_simp
  ·exact rto_store (Hh.out _ B.keeps) B.keeps _ _
theorem r4move_e7 (h : RefAt S w p c d) (hS : ∀ g, w.heap.size <= g -> S g) (hI : DInv d) (hs : smallD d) (f : Int) (name : ByteArray) (t : Int) (other : ByteArray) (k : Int) (hos : other.size <= maxLen) (c0 : lookErr d f name = 0) (hkk : lookOf d f name = k) (c1 : folderErr d t = 0) (htop : (nd d k).kind = 2 -> ¬ Above d k t)
  (hold : entGet (nd d t).ents other = none) (hp : putErr (nd d t).ents other = 0) (hr : room < used d + other.size - name.size) :
  Calls Tryz.prog 136 #[refV p c d room, .int .i64 f, .string name, .int .i64 t, .string other] w (RTo S w d room 20) := by
 have hcap := h.cap
 have hmax := h.max
 unfold maxLen at hmax
 obtain ⟨f0, hget⟩ := lookErr_zero c0
 rw [hkk] at hget
 obtain ⟨hf, hf2⟩ := folderErr_zero f0
 obtain ⟨ht, ht2⟩ := folderErr_zero c1
 have hk : has d k := (hI.tgt f _ (entGet_mem hget)).1
 have hk1 : k ≠ 1 := (hI.tgt f _ (entGet_mem hget)).2
 have hns : name.size <= 255 := okName_size ((hI.node f).names _ (entGet_mem hget))
 have HFo := Lib.hid (fun (w1 : World) (hk : Keeps NoB w w1) => r4folder_any (room := room) (h.keepN hk) hI.zero t)
 have HLk := Lib.hid (fun (w1 : World) (hk : Keeps NoB w w1) => r4look_any (room := room) (h.keepN hk) hI f name)
 have HLo := Lib.hid (fun (w1 : World) (hk : Keeps NoB w w1) => r4look_any (room := room) (h.keepN hk) hI t other)
 have HUs := Lib.hid (fun (w1 : World) (hk : Keeps NoB w w1) => r4used_any (room := room) (h.keepN hk) hI.zero (by have := hI.two; omega) hI hs)
 have HBe := Lib.hid (fun (h2 : (nd d k).kind = 2) (w1 : World) (hkx : Keeps NoB w w1) => r4below_says (room := room) (h.keepN hkx) hI hs t k ht2 hk1 false ⟨(fun h => by cases h), fun h => absurd h (htop h2)⟩)
 have e1 : lookErr d t other = 12 := by unfold lookErr; rw [if_neg (by simpa using c1), hold]; rfl
 have e2 : lookOf d t other = 0 := by unfold lookOf; rw [if_neg (by simpa using c1), hold]; rfl
 rw [c0, hkk] at HLk
 rw [c1] at HFo
 rw [e1, e2] at HLo
 have Hh := Lib.hid (fun (w1 : World) (hk : Keeps NoB w w1) => h.but2 hk)
 have B := rbox (w := w) (Keeps.refl NoB ((w.alloc (.cells #[.slice p d.length c, .int .i64 room] 35)).alloc (.cells #[.slice none 0 0, .int .i64 0] 35)))
 have helT := nd_ents_len hs t
 obtain ⟨F, T, K, g, off, q, q', m, m', rfl, rfl, rfl, hF, hT, hK, rfl, hSg, hsl, hsl', hg1, hc⟩ := move_rows h hf ht hk
 have HC := Lib.hid hc
 have hkd : ((nd d (K : Int)).kind = 2) ∨ ((nd d (K : Int)).kind ≠ 2) := Classical.em _
 have HPu := Lib.hid (fun (w1 : World) (hk1 : Keeps NoB w w1) => r3put_any S w1 q' m' (nd d (T : Int)).ents other (K : Int) (hsl'.keepN hk1) (hI.node (T : Int)).rising (by omega) (fun g hg => hS g (by have := hk1.size; omega)) hos)
 have hul := used_le2 hI hs
 have hob : other.size <= 255 := okName_size (putErr_zero.1 hp).1
 obtain ⟨hwa, hwb⟩ := wrap_move hul hob hns
 rw [hp] at HPu
 unfold refV at *
 clear h hS hI hs hc hsl hsl' f0 hget c0 c1 hkk htop hf ht hk hk1 hf2 ht2 hold e1 e2 helT hns hul hob hp
 generalize (used d : Int) = us at *
 have hwi : IntKind.i64.wrap (us + (other.size : Int)) = us + (other.size : Int) := by rw [<- hwa]; exact wrap_wrap64 _
 have hwj : IntKind.i64.wrap (us + (other.size : Int) - (name.size : Int)) = us + (other.size : Int) - (name.size : Int) := by rw [<- hwb]; exact wrap_wrap64 _
 generalize putTo (nd d (T : Int)).ents other (K : Int) = pt at *
 generalize (nd d (F : Int)).ents = eF at *
 generalize (nd d (T : Int)).ents = eT at *
 rcases hkd with hkd | hkd
 case' inl => rw [hkd] at HC; replace HBe := Lib.hid (HBe.out hkd); clear hkd
 case' inr => clear HBe; generalize (nd d (K : Int)).kind = ko at *
 all_goals
   go_enter Tryz.func136, Tryz.ntmps136
   go_upto_region 19 with (first | (go_at_call 195; have HX := HLk; clear HLk; refine (HX.out _ B.keeps).mono ?_; clear HX; rintro e w1 ⟨rfl, hk1⟩; (try clear A0); (try clear A1); (try clear C0); (try clear C1); (try clear zA); (try clear zC); (try clear l0); (try clear l1); (try clear R0); (try clear R1); (try clear R2); (try clear R3); (try clear R4); (try clear hgl); (try clear Q0); (try clear T4); replace B := B.on hk1; clear hk1; have A0 := B.A0; have A1 := B.A1; have C0 := B.C0; have C1 := B.C1; have zA := B.zA; have zC := B.zC; have l0 : w.heap.size < w1.heap.size := Nat.lt_of_lt_of_le (by simp) B.size; have l1 : w.heap.size + 1 < w1.heap.size := B.size; obtain ⟨R0, R1, R2, R3, R4, hgl, Q0, T4⟩ := HC.out _ B.keeps) | (go_at_call 195; have HX := HLo; clear HLo; refine (HX.out _ B.keeps).mono ?_; clear HX; rintro e w1 ⟨rfl, hk1⟩; (try clear A0); (try clear A1); (try clear C0); (try clear C1); (try clear zA); (try clear zC); (try clear l0); (try clear l1); (try clear R0); (try clear R1); (try clear R2); (try clear R3); (try clear R4); (try clear hgl); (try clear Q0); (try clear T4); replace B := B.on hk1; clear hk1; have A0 := B.A0; have A1 := B.A1; have C0 := B.C0; have C1 := B.C1; have zA := B.zA; have zC := B.zC; have l0 : w.heap.size < w1.heap.size := Nat.lt_of_lt_of_le (by simp) B.size; have l1 : w.heap.size + 1 < w1.heap.size := B.size; obtain ⟨R0, R1, R2, R3, R4, hgl, Q0, T4⟩ := HC.out _ B.keeps) | (go_at_call 191; refine (HFo.out _ B.keeps).mono ?_; rintro e w1 ⟨rfl, hk1⟩; (try clear A0); (try clear A1); (try clear C0); (try clear C1); (try clear zA); (try clear zC); (try clear l0); (try clear l1); (try clear R0); (try clear R1); (try clear R2); (try clear R3); (try clear R4); (try clear hgl); (try clear Q0); (try clear T4); replace B := B.on hk1; clear hk1; have A0 := B.A0; have A1 := B.A1; have C0 := B.C0; have C1 := B.C1; have zA := B.zA; have zC := B.zC; have l0 : w.heap.size < w1.heap.size := Nat.lt_of_lt_of_le (by simp) B.size; have l1 : w.heap.size + 1 < w1.heap.size := B.size; obtain ⟨R0, R1, R2, R3, R4, hgl, Q0, T4⟩ := HC.out _ B.keeps) | (go_at_call 203; refine (HBe.out _ B.keeps).mono ?_; rintro e w1 ⟨rfl, hk1⟩; (try clear A0); (try clear A1); (try clear C0); (try clear C1); (try clear zA); (try clear zC); (try clear l0); (try clear l1); (try clear R0); (try clear R1); (try clear R2); (try clear R3); (try clear R4); (try clear hgl); (try clear Q0); (try clear T4); replace B := B.on hk1; clear hk1; have A0 := B.A0; have A1 := B.A1; have C0 := B.C0; have C1 := B.C1; have zA := B.zA; have zC := B.zC; have l0 : w.heap.size < w1.heap.size := Nat.lt_of_lt_of_le (by simp) B.size; have l1 : w.heap.size + 1 < w1.heap.size := B.size; obtain ⟨R0, R1, R2, R3, R4, hgl, Q0, T4⟩ := HC.out _ B.keeps) | (go_at_call 192; have HX := HPu; clear HPu; go_loud (refine (HX.out _ B.keeps).mono ?_); clear HX; rintro e w1 ⟨v2, rfl, -, hk1⟩; (try clear A0); (try clear A1); (try clear C0); (try clear C1); (try clear zA); (try clear zC); (try clear l0); (try clear l1); (try clear R0); (try clear R1); (try clear R2); (try clear R3); (try clear R4); (try clear hgl); (try clear Q0); (try clear T4); replace B := B.on hk1; clear hk1; have A0 := B.A0; have A1 := B.A1; have C0 := B.C0; have C1 := B.C1; have zA := B.zA; have zC := B.zC; obtain ⟨R0, R1, R2, R3, R4, hgl, Q0, T4⟩ := HC.out _ B.keeps))
   go_cut [104] from 94 to 104 (fun x wx => x = .bool true ∧ Keeps NoB w1 wx)
   case first =>
    have kr : Keeps NoB w1 w1 := Keeps.refl NoB w1
    have krd : Keeps NoB w1 w1.drew := kr.drew
    have Bd := B.on krd
    go_region_held3 (fun wz => wz.cell? ⟨w.heap.size, 0, none⟩ = some (.slice (some ⟨g, off, none⟩) d.length c) ∧ wz.cell? ⟨w.heap.size, 1, none⟩ = some (.int .i64 room) ∧ Keeps NoB w1 wz) (first | exact ⟨B.A0, B.A1, kr⟩ | exact ⟨Bd.A0, Bd.A1, krd⟩ | exact ⟨B6.A0, B6.A1, hk26⟩ | exact ⟨B6d.A0, B6d.A1, hk26d⟩)
     (first | (go_at_call 37; refine (HUs.out _ (B.keeps.trans (by assumption))).mono ?_; rintro e w6 ⟨rfl, hk6⟩; have hk26 : Keeps NoB w1 w6 := Keeps.trans (by assumption) hk6; have B6 := B.on hk26; have hk26d := hk26.drew; have B6d := B.on hk26d; have A06 := B6.A0; have A16 := B6.A1))
    all_goals (go_wp2_with fail; go_meet; exact ⟨by simp [hwi, hwj, hr], by first | exact hk26 | exact hk26.drew⟩)
   case rest =>
    obtain ⟨rfl, hk26⟩ := hcut
    have B6 := B.on hk26
    (try clear A0); (try clear A1); (try clear C0); (try clear C1); (try clear zA); (try clear zC); (try clear l0); (try clear l1); (try clear R0); (try clear R1); (try clear R2); (try clear R3); (try clear R4); (try clear hgl); (try clear Q0); (try clear T4)
    have C0 := B6.C0
    have C1 := B6.C1
    have zC := B6.zC
    have A0 := B6.A0
    have A1 := B6.A1
    go_wp2_with fail
    (try simp only [Exit.inBlock, Exit.then])
    refine bodyPost_ret (v := .tuple #[.agg #[.slice (some ⟨g, off, none⟩) d.length c, .int .i64 room], .int .i64 20]) ?_ rfl ?_
    ·rw [results_cell_tmp rfl]
     go_simp
    ·exact rto_store (Hh.out _ B6.keeps) B6.keeps _ _
end
set_option maxRecDepth 100000
set_option maxHeartbeats 2000000
section
variable {S : Nat -> Prop} {w : World} {p : Option Addr} {c : Nat} {d : Nds} {room : Int}
theorem r4move_put (h : RefAt S w p c d) (hS : ∀ g, w.heap.size <= g -> S g) (hI : DInv d) (hcl : NoGarb d) (hs : smallD d) (f : Int) (name : ByteArray) (t : Int) (other : ByteArray) (k : Int) (hos : other.size <= maxLen) (c0 : lookErr d f name = 0) (hkk : lookOf d f name = k) (c1 : folderErr d t = 0) (htop : (nd d k).kind = 2 -> ¬ Above d k t)
  (hold : entGet (nd d t).ents other = none) (hp : putErr (nd d t).ents other = 0) (hr : ¬ room < used d + other.size - name.size) :
  Calls Tryz.prog 136 #[refV p c d room, .int .i64 f, .string name, .int .i64 t, .string other] w (RTo S w (gc (moveTo d f name t other k)) room 0) := by
 have hcap := h.cap
 have hmax := h.max
 unfold maxLen at hmax
 obtain ⟨f0, hget⟩ := lookErr_zero c0
 rw [hkk] at hget
 obtain ⟨hf, hf2⟩ := folderErr_zero f0
 obtain ⟨ht, ht2⟩ := folderErr_zero c1
 have hk : has d k := (hI.tgt f _ (entGet_mem hget)).1
 have hk1 : k ≠ 1 := (hI.tgt f _ (entGet_mem hget)).2
 have hns : name.size <= 255 := okName_size ((hI.node f).names _ (entGet_mem hget))
 have HFo := Lib.hid (fun (w1 : World) (hk : Keeps NoB w w1) => r4folder_any (room := room) (h.keepN hk) hI.zero t)
 have HLk := Lib.hid (fun (w1 : World) (hk : Keeps NoB w w1) => r4look_any (room := room) (h.keepN hk) hI f name)
 have HLo := Lib.hid (fun (w1 : World) (hk : Keeps NoB w w1) => r4look_any (room := room) (h.keepN hk) hI t other)
 have HUs := Lib.hid (fun (w1 : World) (hk : Keeps NoB w w1) => r4used_any (room := room) (h.keepN hk) hI.zero (by have := hI.two; omega) hI hs)
 have HBe := Lib.hid (fun (h2 : (nd d k).kind = 2) (w1 : World) (hkx : Keeps NoB w w1) => r4below_says (room := room) (h.keepN hkx) hI hs t k ht2 hk1 false ⟨(fun h => by cases h), fun h => absurd h (htop h2)⟩)
 have e1 : lookErr d t other = 12 := by unfold lookErr; rw [if_neg (by simpa using c1), hold]; rfl
 have e2 : lookOf d t other = 0 := by unfold lookOf; rw [if_neg (by simpa using c1), hold]; rfl
 rw [c0, hkk] at HLk
 rw [c1] at HFo
 rw [e1, e2] at HLo
 have Hh := Lib.hid (fun (w1 : World) (hk : Keeps NoB w w1) => h.but2 hk)
 have B := rbox (w := w) (Keeps.refl NoB ((w.alloc (.cells #[.slice p d.length c, .int .i64 room] 35)).alloc (.cells #[.slice none 0 0, .int .i64 0] 35)))
 have helT := nd_ents_len hs t
 have hnh : entHas (nd d t).ents other = false := by rw [<- entGet_isSome, hold]; rfl
 have M : MoveOk d f name t other k := MoveOk.mk' hI hf2 ht2 hget (by rw [hold]; simp) (fun _ => hp) htop
 -- what the two puts make
 have hI1 : DInv (dropTo d f name) := drop_inv hI M.f2 M.get
 have hlen1 : (dropTo d f name).length = d.length := length_setE _ _ _
 have hlen2 : (moveTo d f name t other k).length = d.length := by unfold moveTo dropTo moveMid; rw [length_setE, length_setE]
 have hel := nd_ents_len hs f
 have hel1 : (nd (dropTo d f name) t).ents.length < 4294967295 := nd_ents_len (by have := drop_mass hI hf M.get; unfold smallD at *; omega) t
 have hml := mass_ge d
 have hd1 : setE d f (entDel (nd d f).ents name) = dropTo d f name := rfl
 have hd2 : setE (dropTo d f name) t (entPut (nd (dropTo d f name) t).ents other k) = moveTo d f name t other k := by
  rw [<- M.ref]
  unfold refAtL
  rw [if_neg (by rw [hnh]; decide)]
 have hhas1 : hasErr (nd d f).ents name = 0 := by unfold hasErr; rw [if_pos (entGet_has M.get)]
 have hp2 : putErr (nd (dropTo d f name) t).ents other = 0 := putErr_zero.2 ⟨(putErr_zero.1 hp).1, by rw [M.get_drop]; exact hnh⟩
 have hgc := (M.free hcl).2 hold
 rw [hgc]
 obtain ⟨F, T, K, g, off, q, q', m, m', rfl, rfl, rfl, hF, hT, hK, rfl, hSg, hsl, hsl', hg1, hc⟩ := move_rows h hf ht hk
 have HC := Lib.hid hc
 have hkd : ((nd d (K : Int)).kind = 2) ∨ ((nd d (K : Int)).kind ≠ 2) := Classical.em _
 have HPu := Lib.hid (fun (w1 : World) (hk1 : Keeps NoB w w1) => r3put_any S w1 q' m' (nd d (T : Int)).ents other (K : Int) (hsl'.keepN hk1) (hI.node (T : Int)).rising (by omega) (fun g hg => hS g (by have := hk1.size; omega)) hos)
 have hul := used_le2 hI hs
 have hob : other.size <= 255 := okName_size (putErr_zero.1 hp).1
 obtain ⟨hwa, hwb⟩ := wrap_move hul hob hns
 rw [hp] at HPu
 have HD := Lib.hid (fun (w2 : World) (N : Nat) (hk2 : Keeps NoB w w2) (hN : w.heap.size + 2 <= N) (hsz : N < w2.heap.size) => r3drop_any (But3 S w N) w2 q m (nd d (F : Int)).ents name
   (hsl.keepS hk2 (fun _ _ _ h => h) (fun g hg hl => ⟨⟨hg, by omega, by omega⟩, by omega⟩)) (hI.node (F : Int)).rising (by omega) (but3_new hS hN hsz))
 rw [hhas1] at HD
 have HP := Lib.hid (fun (w0 w2 : World) (N : Nat) (hk0 : Keeps NoB w w0) (hN : w.heap.size + 2 <= N) (hsz : N < w2.heap.size) (hr : RefAt (But3 S w N) w2 (some ⟨g, off, none⟩) c d) (q2 : Option Addr) (m2 : Nat) (hx : SlAt encEnt (But3 S w N) w2 q2 m2 (entDel (nd d (F : Int)).ents name)) =>
  put3 (room := room) hr hS hN hsz (by unfold smallD at hs; omega) F hF (entDel (nd d (F : Int)).ents name) q2 m2 hx (dropTo d F name) hd1)
 have HT := Lib.hid (fun (w2 : World) (N : Nat) (p3 : Option Addr) (c3 : Nat) (hr : RefAt (But3 S w N) w2 p3 c3 (dropTo d F name)) => hr.rowAt (show T < (dropTo d F name).length by rw [hlen1]; exact hT))
 have HS := Lib.hid (fun (w2 : World) (N : Nat) (hN : w.heap.size + 2 <= N) (hsz : N < w2.heap.size) (q2 : Option Addr) (m2 : Nat) (hx : SlAt encEnt (But3 S w N) w2 q2 m2 (nd (dropTo d F name) (T : Int)).ents) =>
  r3put_any (But3 S w N) w2 q2 m2 (nd (dropTo d F name) (T : Int)).ents other (K : Int) hx (hI1.node (T : Int)).rising hel1 (but3_new hS hN hsz) hos)
 rw [hp2, show putTo (nd (dropTo d F name) (T : Int)).ents other (K : Int) = entPut (nd (dropTo d F name) (T : Int)).ents other (K : Int) from if_pos hp2] at HS
 have HQ := Lib.hid (fun (w2 : World) (N : Nat) (hN : w.heap.size + 2 <= N) (hsz : N < w2.heap.size) (p3 : Option Addr) (c3 : Nat) (hr : RefAt (But3 S w N) w2 p3 c3 (dropTo d F name)) (q2 : Option Addr) (m2 : Nat) (hx : SlAt encEnt (But3 S w N) w2 q2 m2 (entPut (nd (dropTo d F name) (T : Int)).ents other K)) =>
  put3 (room := room) hr hS hN hsz (by unfold smallD at hs; rw [hlen1]; omega) T (by rw [hlen1]; exact hT) (entPut (nd (dropTo d F name) (T : Int)).ents other K) q2 m2 hx (moveTo d F name T other K) hd2)
 have HR0 := Lib.hid (fun (w2 : World) (N : Nat) (hk : Keeps NoB w w2) (hN : w.heap.size + 2 <= N) => h.but3 hk hN)
 unfold refV at *
 rw [hlen1] at HQ
 have HL2 := Lib.hid hlen2
 clear h hI hs hc hsl hsl' f0 hget c0 c1 hkk htop hf ht hk hk1 hf2 ht2 hold e1 e2 helT hns hul hob hp hp2 hnh M hcl hI1 hlen1 hlen2 hel hel1 hml hd1 hd2 hhas1 hgc Hh
 generalize (used d : Int) = us at *
 have hwi : IntKind.i64.wrap (us + (other.size : Int)) = us + (other.size : Int) := by rw [<- hwa]; exact wrap_wrap64 _
 have hwj : IntKind.i64.wrap (us + (other.size : Int) - (name.size : Int)) = us + (other.size : Int) - (name.size : Int) := by rw [<- hwb]; exact wrap_wrap64 _
 generalize putTo (nd d (T : Int)).ents other (K : Int) = pt at *
 generalize moveTo d F name T other K = dd2 at *
 generalize entPut (nd (dropTo d F name) (T : Int)).ents other K = ns at *
 generalize dropTo d F name = dd1 at *
 generalize entDel (nd d (F : Int)).ents name = ne at *
 generalize (nd d (F : Int)).ents = eF at *
 generalize (nd d (T : Int)).ents = eT at *
 rcases hkd with hkd | hkd
 case' inl => rw [hkd] at HC; replace HBe := Lib.hid (HBe.out hkd); clear hkd
 case' inr => clear HBe; generalize (nd d (K : Int)).kind = ko at *
 all_goals
   go_enter Tryz.func136, Tryz.ntmps136
   go_upto_region 19 with (first | (go_at_call 195; have HX := HLk; clear HLk; refine (HX.out _ B.keeps).mono ?_; clear HX; rintro e w1 ⟨rfl, hk1⟩; (try clear A0); (try clear A1); (try clear C0); (try clear C1); (try clear zA); (try clear zC); (try clear l0); (try clear l1); (try clear R0); (try clear R1); (try clear R2); (try clear R3); (try clear R4); (try clear hgl); (try clear Q0); (try clear T4); replace B := B.on hk1; clear hk1; have A0 := B.A0; have A1 := B.A1; have C0 := B.C0; have C1 := B.C1; have zA := B.zA; have zC := B.zC; have l0 : w.heap.size < w1.heap.size := Nat.lt_of_lt_of_le (by simp) B.size; have l1 : w.heap.size + 1 < w1.heap.size := B.size; obtain ⟨R0, R1, R2, R3, R4, hgl, Q0, T4⟩ := HC.out _ B.keeps) | (go_at_call 195; have HX := HLo; clear HLo; refine (HX.out _ B.keeps).mono ?_; clear HX; rintro e w1 ⟨rfl, hk1⟩; (try clear A0); (try clear A1); (try clear C0); (try clear C1); (try clear zA); (try clear zC); (try clear l0); (try clear l1); (try clear R0); (try clear R1); (try clear R2); (try clear R3); (try clear R4); (try clear hgl); (try clear Q0); (try clear T4); replace B := B.on hk1; clear hk1; have A0 := B.A0; have A1 := B.A1; have C0 := B.C0; have C1 := B.C1; have zA := B.zA; have zC := B.zC; have l0 : w.heap.size < w1.heap.size := Nat.lt_of_lt_of_le (by simp) B.size; have l1 : w.heap.size + 1 < w1.heap.size := B.size; obtain ⟨R0, R1, R2, R3, R4, hgl, Q0, T4⟩ := HC.out _ B.keeps) | (go_at_call 191; refine (HFo.out _ B.keeps).mono ?_; rintro e w1 ⟨rfl, hk1⟩; (try clear A0); (try clear A1); (try clear C0); (try clear C1); (try clear zA); (try clear zC); (try clear l0); (try clear l1); (try clear R0); (try clear R1); (try clear R2); (try clear R3); (try clear R4); (try clear hgl); (try clear Q0); (try clear T4); replace B := B.on hk1; clear hk1; have A0 := B.A0; have A1 := B.A1; have C0 := B.C0; have C1 := B.C1; have zA := B.zA; have zC := B.zC; have l0 : w.heap.size < w1.heap.size := Nat.lt_of_lt_of_le (by simp) B.size; have l1 : w.heap.size + 1 < w1.heap.size := B.size; obtain ⟨R0, R1, R2, R3, R4, hgl, Q0, T4⟩ := HC.out _ B.keeps) | (go_at_call 203; refine (HBe.out _ B.keeps).mono ?_; rintro e w1 ⟨rfl, hk1⟩; (try clear A0); (try clear A1); (try clear C0); (try clear C1); (try clear zA); (try clear zC); (try clear l0); (try clear l1); (try clear R0); (try clear R1); (try clear R2); (try clear R3); (try clear R4); (try clear hgl); (try clear Q0); (try clear T4); replace B := B.on hk1; clear hk1; have A0 := B.A0; have A1 := B.A1; have C0 := B.C0; have C1 := B.C1; have zA := B.zA; have zC := B.zC; have l0 : w.heap.size < w1.heap.size := Nat.lt_of_lt_of_le (by simp) B.size; have l1 : w.heap.size + 1 < w1.heap.size := B.size; obtain ⟨R0, R1, R2, R3, R4, hgl, Q0, T4⟩ := HC.out _ B.keeps) | (go_at_call 192; have HX := HPu; clear HPu; go_loud (refine (HX.out _ B.keeps).mono ?_); clear HX; rintro e w1 ⟨v2, rfl, -, hk1⟩; (try clear A0); (try clear A1); (try clear C0); (try clear C1); (try clear zA); (try clear zC); (try clear l0); (try clear l1); (try clear R0); (try clear R1); (try clear R2); (try clear R3); (try clear R4); (try clear hgl); (try clear Q0); (try clear T4); replace B := B.on hk1; clear hk1; have A0 := B.A0; have A1 := B.A1; have C0 := B.C0; have C1 := B.C1; have zA := B.zA; have zC := B.zC; obtain ⟨R0, R1, R2, R3, R4, hgl, Q0, T4⟩ := HC.out _ B.keeps))
   go_cut [104] from 94 to 104 (fun x wx => x = .bool false ∧ Keeps NoB w1 wx)
   case first =>
    have kr : Keeps NoB w1 w1 := Keeps.refl NoB w1
    have krd : Keeps NoB w1 w1.drew := kr.drew
    have Bd := B.on krd
    go_region_held3 (fun wz => wz.cell? ⟨w.heap.size, 0, none⟩ = some (.slice (some ⟨g, off, none⟩) d.length c) ∧ wz.cell? ⟨w.heap.size, 1, none⟩ = some (.int .i64 room) ∧ Keeps NoB w1 wz) (first | exact ⟨B.A0, B.A1, kr⟩ | exact ⟨Bd.A0, Bd.A1, krd⟩ | exact ⟨B6.A0, B6.A1, hk26⟩ | exact ⟨B6d.A0, B6d.A1, hk26d⟩)
     (first | (go_at_call 37; refine (HUs.out _ (B.keeps.trans (by assumption))).mono ?_; rintro e w6 ⟨rfl, hk6⟩; have hk26 : Keeps NoB w1 w6 := Keeps.trans (by assumption) hk6; have B6 := B.on hk26; have hk26d := hk26.drew; have B6d := B.on hk26d; have A06 := B6.A0; have A16 := B6.A1))
    all_goals (go_wp2_with fail; go_meet; exact ⟨by simp [hwi, hwj, hr], by first | exact hk26 | exact hk26.drew⟩)
   case rest =>
    obtain ⟨rfl, hk26⟩ := hcut
    replace B := B.on hk26
    (try clear A0); (try clear A1); (try clear C0); (try clear C1); (try clear zA); (try clear zC); (try clear l0); (try clear l1); (try clear R0); (try clear R1); (try clear R2); (try clear R3); (try clear R4); (try clear hgl); (try clear Q0); (try clear T4)
    clear hk26 HUs hwi hwj hwa hwb hr
    obtain ⟨R0, R1, R2, R3, R4, hgl, Q0, T4⟩ := HC.out _ B.keeps
    have A0 := B.A0
    have A1 := B.A1
    have C0 := B.C0
    have C1 := B.C1
    have zA := B.zA
    have zC := B.zC
    go_upto_region 24 with (first | (go_at_call 196; go_loud (refine (HD.out _ wc.heap.size (B.keeps.alloc _) B.size (by simp)).mono ?_); rintro e w2 ⟨v2, rfl, hsl, hk2⟩; obtain ⟨q2, m2, rfl, hsl⟩ := hsl; have NB := nbox hk2; have Bs := B.size; have kw2 := (B.keeps.alloc _).trans hk2; replace B := (B.on ((Keeps.refl NoB _).alloc _)).on hk2; (try clear A0); (try clear A1); (try clear C0); (try clear C1); (try clear zA); (try clear zC); (try clear l0); (try clear l1); (try clear R0); (try clear R1); (try clear R2); (try clear R3); (try clear R4); (try clear hgl); (try clear Q0); (try clear T4); have A0 := B.A0; have A1 := B.A1; have C0 := B.C0; have C1 := B.C1; have zA := B.zA; have zC := B.zC; have N0 := NB.N0; have N1 := NB.N1; have N2 := NB.N2; have N3 := NB.N3; have N4 := NB.N4; have zN := NB.zN; have nA : ¬ w.heap.size = wc.heap.size := (by omega); have nA' : ¬ wc.heap.size = w.heap.size := (by omega); have hz2 : wc.heap.size < w2.heap.size := lt_of_cell N0) | (go_at_call 168; go_loud (refine (HP.out w2 _ wc.heap.size kw2 Bs (by simpa using hz2) ((HR0.out w2 _ kw2 Bs).var (keeps_set w2 ⟨wc.heap.size, 4, none⟩ _) (fun b hb => .inr (.inr hb))) q2 m2 (hsl.var3 (keeps_set w2 ⟨wc.heap.size, 4, none⟩ _) (fun b hb => .inr (.inr hb)))).mono ?_); rintro e w4 ⟨p3, c3, rfl, href, hk4⟩; replace NB := (NB.set4 (.slice q2 ne.length m2)).on hk4; replace B := (B.set Bs 4 (.slice q2 ne.length m2)).on hk4; (try clear N0 N1 N2 N3 N4 zN); (try clear A0); (try clear A1); (try clear C0); (try clear C1); (try clear zA); (try clear zC); (try clear l0); (try clear l1); (try clear R0); (try clear R1); (try clear R2); (try clear R3); (try clear R4); (try clear hgl); (try clear Q0); (try clear T4); have A0 := B.A0; have A1 := B.A1; have C0 := B.C0; have C1 := B.C1; have zA := B.zA; have zC := B.zC))
    have kA := (keeps_set w4 ⟨w.heap.size, 0, none⟩ (.slice p3 d.length c3)).trans (keeps_set _ ⟨w.heap.size, 1, none⟩ (.int .i64 room))
    have B5 := B.setA (p' := p3) (n' := d.length) (c' := c3) (room' := room)
    have N5 := NB.keep kA nA'
    have href5 := href.var kA (fun b hb => .inl hb)
    have hz5 := lt_of_cell N5.N0
    (try clear A0); (try clear A1); (try clear C0); (try clear C1); (try clear zA); (try clear zC); (try clear l0); (try clear l1); (try clear R0); (try clear R1); (try clear R2); (try clear R3); (try clear R4); (try clear hgl); (try clear Q0); (try clear T4)
    clear kA hk4 NB B href hsl hk2 kw2 HP HD HR0 HC hz2
    generalize (w4.setCell ⟨w.heap.size, 0, none⟩ (.slice p3 d.length c3)).setCell ⟨w.heap.size, 1, none⟩ (.int .i64 room) = w5 at *
    obtain ⟨g5, off5, q5, m5, rfl, hS5, hrow5⟩ := HT.out _ _ _ _ href5
    have A0 := B5.A0
    have A1 := B5.A1
    have C0 := B5.C0
    have C1 := B5.C1
    have zA := B5.zA
    have zC := B5.zC
    have N0 := N5.N0
    have N1 := N5.N1
    have N2 := N5.N2
    have N3 := N5.N3
    have N4 := N5.N4
    have zN := N5.zN
    have R0 := hrow5.c0
    have R1 := hrow5.c1
    have R2 := hrow5.c2
    have R3 := hrow5.c3
    have R4 := hrow5.c4
    have hgl := hrow5.lt
    have nG : ¬ g5 = wc.heap.size := hS5.2
    have nG' : ¬ wc.heap.size = g5 := fun e => nG e.symm
    go_upto_region 25 with (fail)
    change Code.wp _ _ _ _ (set5 w5 wc.heap.size 0 (.int .i64 (nd dd1 (T : Int)).kind) (.int .i64 (nd dd1 (T : Int)).mode) (.int .i64 (nd dd1 (T : Int)).holds) (.string (nd dd1 (T : Int)).data) (.slice q5 (nd dd1 (T : Int)).ents.length m5))
    have k5 := set5_keeps w5 wc.heap.size 0 (.int .i64 (nd dd1 (T : Int)).kind) (.int .i64 (nd dd1 (T : Int)).mode) (.int .i64 (nd dd1 (T : Int)).holds) (.string (nd dd1 (T : Int)).data) (.slice q5 (nd dd1 (T : Int)).ents.length m5)
    have N6 := N5.set5 (.int .i64 (nd dd1 (T : Int)).kind) (.int .i64 (nd dd1 (T : Int)).mode) (.int .i64 (nd dd1 (T : Int)).holds) (.string (nd dd1 (T : Int)).data) (.slice q5 (nd dd1 (T : Int)).ents.length m5)
    have B6 := B5.keep k5 nA (by omega) (fun b hb => by omega)
    have href6 := href5.var k5 (fun b hb => .inr (.inr hb))
    have hsl6 := hrow5.sl.var3 k5 (fun b hb => .inr (.inr hb))
    have hz6 := lt_of_cell N6.N0
    (try clear A0); (try clear A1); (try clear C0); (try clear C1); (try clear zA); (try clear zC); (try clear l0); (try clear l1); (try clear R0); (try clear R1); (try clear R2); (try clear R3); (try clear R4); (try clear hgl); (try clear Q0); (try clear T4)
    clear N0 N1 N2 N3 N4 zN k5 N5 B5 href5 hrow5 HT hz5 nG nG' hS5
    generalize set5 w5 wc.heap.size 0 (.int .i64 (nd dd1 (T : Int)).kind) (.int .i64 (nd dd1 (T : Int)).mode) (.int .i64 (nd dd1 (T : Int)).holds) (.string (nd dd1 (T : Int)).data) (.slice q5 (nd dd1 (T : Int)).ents.length m5) = w6 at *
    have A0 := B6.A0
    have A1 := B6.A1
    have C0 := B6.C0
    have C1 := B6.C1
    have zA := B6.zA
    have zC := B6.zC
    have N0 := N6.N0
    have N1 := N6.N1
    have N2 := N6.N2
    have N3 := N6.N3
    have N4 := N6.N4
    have zN := N6.zN
    go_wp2_with (first | (go_at_call 192; go_loud (refine (HS.out w6 wc.heap.size Bs hz6 q5 m5 hsl6).mono ?_); rintro e w7 ⟨v7, rfl, hsl7, hk7⟩; obtain ⟨q7, m7, rfl, hsl7⟩ := hsl7; have N7 := N6.on hk7; have B7 := B6.on hk7; have href7 := href6.keepN hk7; have hz7 := lt_of_cell N7.N0; (try clear A0); (try clear A1); (try clear C0); (try clear C1); (try clear zA); (try clear zC); (try clear l0); (try clear l1); (try clear R0); (try clear R1); (try clear R2); (try clear R3); (try clear R4); (try clear hgl); (try clear Q0); (try clear T4); clear N0 N1 N2 N3 N4 zN; have A0 := B7.A0; have A1 := B7.A1; have C0 := B7.C0; have C1 := B7.C1; have zA := B7.zA; have zC := B7.zC; have N0 := N7.N0; have N1 := N7.N1; have N2 := N7.N2; have N3 := N7.N3; have N4 := N7.N4; have zN := N7.zN) | (go_at_call 168; go_loud (refine (HQ.out _ wc.heap.size Bs (by simpa using hz7) _ _ (href7.var (keeps_set w7 ⟨wc.heap.size, 4, none⟩ _) (fun b hb => .inr (.inr hb))) q7 m7 (hsl7.var3 (keeps_set w7 ⟨wc.heap.size, 4, none⟩ _) (fun b hb => .inr (.inr hb)))).mono ?_); rintro e w8 ⟨p8, c8, rfl, href8, hk8⟩; have B8 := (B7.set Bs 4 (.slice q7 ns.length m7)).on hk8; have N8 := (N7.set4 (.slice q7 ns.length m7)).on hk8; have hz8 := lt_of_cell N8.N0; (try clear A0); (try clear A1); (try clear C0); (try clear C1); (try clear zA); (try clear zC); (try clear l0); (try clear l1); (try clear R0); (try clear R1); (try clear R2); (try clear R3); (try clear R4); (try clear hgl); (try clear Q0); (try clear T4); clear N0 N1 N2 N3 N4 zN; have A0 := B8.A0; have A1 := B8.A1; have C0 := B8.C0; have C1 := B8.C1; have zA := B8.zA; have zC := B8.zC))
    (try simp only [Exit.inBlock, Exit.then])
    refine bodyPost_ret (v := .tuple #[.agg #[.slice p8 d.length c8, .int .i64 room], .int .i64 0]) ?_ rfl ?_
    ·rw [results_cell_tmp rfl]
     go_simp
    ·have hz := rto_store (room := room) (err := 0) ((href8.var ((keeps_set w8 ⟨w.heap.size, 0, none⟩ (.slice p8 d.length c8)).trans (keeps_set _ ⟨w.heap.size, 1, none⟩ (.int .i64 room))) (fun b hb => .inl hb)).of3) (B8.setA (p' := p8) (n' := d.length) (c' := c8) (room' := room)).keeps (.slice p8 d.length c8) (.int .i64 room)
     unfold refV at hz
     rw [HL2.out] at hz
     exact hz
end
set_option maxRecDepth 100000
set_option maxHeartbeats 1000000
section
variable {S : Nat -> Prop} {w : World} {p : Option Addr} {c : Nat} {d : Nds} {room : Int}
theorem r4move_any (h : RefAt S w p c d) (hS : ∀ g, w.heap.size <= g -> S g) (hI : DInv d) (hcl : NoGarb d) (hs : smallD d) (f : Int) (name : ByteArray) (t : Int) (other : ByteArray) (hos : other.size <= maxLen) :
  Calls Tryz.prog 136 #[refV p c d room, .int .i64 f, .string name, .int .i64 t, .string other] w (RTo S w (moveD d room f name t other) room (moveErr d room f name t other)) := by
 by_cases c0 : lookErr d f name = 0
 case neg =>
  rw [moveD_err (by rw [moveErr_look c0]; exact c0), moveErr_look c0]
  have := r4move_e1 (room := room) h hI hs f name t other (.inl c0)
  rw [if_pos c0] at this
  exact this
 case pos =>
 by_cases c1 : folderErr d t = 0
 case neg =>
  rw [moveD_err (by rw [moveErr_fold c0 c1]; exact c1), moveErr_fold c0 c1]
  have := r4move_e1 (room := room) h hI hs f name t other (.inr c1)
  rw [if_neg (by simpa using c0)] at this
  exact this
 case pos =>
 by_cases c2 : (nd d (lookOf d f name)).kind = 2 ∧ Above d (lookOf d f name) t
 ·rw [moveD_err (by rw [moveErr_busy c0 c1 c2]; decide), moveErr_busy c0 c1 c2]
  exact r4move_e2 h hI hs f name t other _ c0 rfl c1 c2.1 c2.2
 ·have e2 := moveErr_two (room := room) (other := other) c0 c1 c2
  have htop : (nd d (lookOf d f name)).kind = 2 -> ¬ Above d (lookOf d f name) t := fun h2 ha => c2 ⟨h2, ha⟩
  obtain ⟨f0, hget⟩ := lookErr_zero c0
  obtain ⟨hf, hf2⟩ := folderErr_zero f0
  obtain ⟨ht, ht2⟩ := folderErr_zero c1
  cases ho : entGet (nd d t).ents other with
  | none =>
   have hnh : entHas (nd d t).ents other = false := by rw [<- entGet_isSome, ho]; rfl
   have hE : moveErr2 d room t other name (lookOf d f name) = movedErr d room t other name := by unfold moveErr2; rw [ho]
   rw [hE] at e2
   have hM : movedErr d room t other name = if putErr (nd d t).ents other ≠ 0 then putErr (nd d t).ents other else if room - used d < (other.size : Int) - name.size then 20 else 0 := if_neg (by rw [hnh]; decide)
   by_cases hp : putErr (nd d t).ents other = 0
   case neg =>
    rw [if_pos hp] at hM
    rw [moveD_err (by rw [e2, hM]; exact hp), e2, hM]
    exact r4move_e6 h hS hI hs f name t other _ hos c0 rfl c1 htop ho hp
   case pos =>
    rw [if_neg (by simpa using hp)] at hM
    by_cases hr : room - used d < (other.size : Int) - name.size
    ·rw [if_pos hr] at hM
     rw [moveD_err (by rw [e2, hM]; decide), e2, hM]
     exact r4move_e7 h hS hI hs f name t other _ hos c0 rfl c1 htop ho hp (by omega)
    ·rw [if_neg hr] at hM
     have hD : moveD d room f name t other = gc (moveTo d f name t other (lookOf d f name)) := if_pos ⟨by rw [e2, hM], by rw [ho]; simp⟩
     rw [hD, e2, hM]
     exact r4move_put h hS hI hcl hs f name t other _ hos c0 rfl c1 htop ho hp (by omega)
  | some old =>
   by_cases c3 : old = lookOf d f name
   ·have hE : moveErr2 d room t other name (lookOf d f name) = 0 := by unfold moveErr2; rw [ho]; exact if_pos c3
    have hD : moveD d room f name t other = d := if_neg (fun h => h.2 (by rw [ho, c3]))
    rw [hD, e2, hE]
    have := r4move_e3 (room := room) h hI hs f name t other _ old c0 rfl c1 htop ho (.inl c3)
    rw [if_pos c3] at this
    exact this
   ·have hE : moveErr2 d room t other name (lookOf d f name) = givesErr d (lookOf d f name) old := by unfold moveErr2; rw [ho]; exact if_neg c3
    by_cases c4 : givesErr d (lookOf d f name) old = 0
    ·have hne : entGet (nd d t).ents other ≠ some (lookOf d f name) := by rw [ho]; simpa using c3
     have hD : moveD d room f name t other = gc (moveTo d f name t other (lookOf d f name)) := if_pos ⟨by rw [e2, hE, c4], hne⟩
     rw [hD, e2, hE, c4]
     have M : MoveOk d f name t other (lookOf d f name) := MoveOk.mk' hI hf2 ht2 hget hne (fun h => by rw [entGet_has ho] at h; cases h) htop
     exact r4move_set h hS hI hcl hs f name t other _ old c0 rfl c1 M ho c3 c4
    ·rw [moveD_err (by rw [e2, hE]; exact c4), e2, hE]
     have := r4move_e3 (room := room) h hI hs f name t other _ old c0 rfl c1 htop ho (.inr c4)
     rw [if_neg c3] at this
     exact this
end
set_option maxRecDepth 100000
set_option maxHeartbeats 1000000
structure Op4 where
 kind : Int
 a : Int
 b : Int
 s : ByteArray
 t : ByteArray
-- the anchor's disks
set_option maxRecDepth 100000
set_option maxHeartbeats 2000000
noncomputable def stepD (d : Nds) (room : Int) (o : Op4) : Nds :=
 if o.kind = 1 then makeTo d room o.a o.b o.s else if o.kind = 2 then holdD d o.a else if o.kind = 3 then relD d o.a else if o.kind = 4 then chmodD d o.a o.b else if o.kind = 5 then writeTo d room o.a o.b o.s
 else if o.kind = 6 then emptyD d o.a else if o.kind = 7 then enterD d room o.a o.s o.b else if o.kind = 8 then leaveTo d o.a o.s else if o.kind = 9 then moveD d room o.a o.s o.b o.t else d
section
variable {N : Nat -> Prop} {w : World} {a : Nat} {d : Nds} {p : Option Addr} {c : Nat} {room : Int}
end
set_option maxRecDepth 100000
set_option maxHeartbeats 2000000
section
variable {N : Nat -> Prop} {w : World} {a : Nat} {d : Nds} {p : Option Addr} {c : Nat} {room : Int}
end
theorem gc_mass (d : Nds) : mass (gc d) <= mass d := (gc_kills d).mass
theorem stepD_mass {d : Nds} (hI : DInv d) (room : Int) (o : Op4) : mass (stepD d room o) <= mass d + 2 := by
 have hup : ∀ i n, has d i -> mass1 n <= mass1 (nd d i) + 1 -> mass (upd d i n) <= mass d + 1 := fun i n hi hm => by
  have := mass_upd (n := n) hi
  omega
 unfold stepD
 split
 ·unfold makeTo
  split
  ·have := sumBy_append mass1 d (newNd o.a o.b o.s)
   have e : mass1 (newNd o.a o.b o.s) = 2 := rfl
   unfold mass
   omega
  ·omega
 split
 ·unfold holdD
  split
  ·next hi =>
   have := hup o.a ((nd d o.a).setHolds ((nd d o.a).holds + 1)) hi (by unfold mass1; simp only [Nd.setHolds]; omega)
   unfold holdTo
   omega
  ·omega
 split
 ·unfold relD
  split
  ·next he =>
   have hi : has d o.a := by
    unfold relErr at he
    split at he
    ·cases he
    ·next h => exact h
   have := hup o.a ((nd d o.a).setHolds ((nd d o.a).holds - 1)) hi (by unfold mass1; simp only [Nd.setHolds]; omega)
   have := gc_mass (relTo d o.a)
   unfold relTo at *
   omega
  ·omega
 split
 ·unfold chmodD
  split
  ·next he =>
   have hi : has d o.a := by
    unfold chmodErr at he
    split at he
    ·cases he
    ·next h => exact h
   have := hup o.a ((nd d o.a).setMode o.b) hi (by unfold mass1; simp only [Nd.setMode]; omega)
   unfold chmodTo
   omega
  ·omega
 split
 ·unfold writeTo
  split
  ·next he =>
   have hi : has d o.a := by
    have h1 := he.1
    unfold writeErr at h1
    split at h1
    ·next e => exact absurd h1 e
    ·next e => exact (fileErr_zero (Classical.not_not.1 e)).1
   have := hup o.a (writeNd (nd d o.a) o.b.toNat o.s) hi (by unfold mass1 writeNd; simp only [Nd.setData]; omega)
   omega
  ·omega
 split
 ·unfold emptyD
  split
  ·next he =>
   have hi := (fileErr_zero he).1
   have := hup o.a ((nd d o.a).setData ⟨#[]⟩) hi (by unfold mass1; simp only [Nd.setData]; omega)
   unfold emptyTo
   omega
  ·omega
 split
 ·unfold enterD
  split
  ·next he =>
   have hf : folderErr d o.a = 0 := by
    unfold enterErr at he
    split at he
    ·next e => exact absurd he e
    ·next e => exact Classical.not_not.1 e
   have hi := (folderErr_zero hf).1
   have hp : putErr (nd d o.a).ents o.s = 0 := by
    unfold enterErr at he
    rw [if_neg (by simpa using hf)] at he
    split at he; · cases he
    split at he; · cases he
    split at he; · cases he
    split at he
    ·next e => exact absurd he e
    ·next e => exact Classical.not_not.1 e
   have := enter_mass (k := o.b) hi hp
   omega
  ·omega
 split
 ·unfold leaveTo
  split
  ·next he =>
   have h0 : lookErr d o.a o.s = 0 := by
    unfold leaveErr at he
    split at he
    ·next e => exact absurd he e
    ·next e => exact Classical.not_not.1 e
   obtain ⟨f0, hg⟩ := lookErr_zero h0
   have := drop_mass hI (folderErr_zero f0).1 hg
   have := gc_mass (dropTo d o.a o.s)
   omega
  ·omega
 split
 ·unfold moveD
  split
  ·next he =>
   obtain ⟨he, hne⟩ := he
   have h0 : lookErr d o.a o.s = 0 := by
    refine Classical.byContradiction fun h => ?_
    rw [moveErr_look h] at he; exact h he
   have h1 : folderErr d o.b = 0 := by
    refine Classical.byContradiction fun h => ?_
    rw [moveErr_fold h0 h] at he; exact h he
   have h2 : ¬ ((nd d (lookOf d o.a o.s)).kind = 2 ∧ Above d (lookOf d o.a o.s) o.b) := fun h => by
    rw [moveErr_busy h0 h1 h] at he; cases he
   rw [moveErr_two h0 h1 h2] at he
   obtain ⟨f0, hg⟩ := lookErr_zero h0
   have M : MoveOk d o.a o.s o.b o.t (lookOf d o.a o.s) := MoveOk.mk' hI (folderErr_zero f0).2 (folderErr_zero h1).2 hg hne (fun hh => by
    have hn : entGet (nd d o.b).ents o.t = none := by
     cases hx : entGet (nd d o.b).ents o.t with
     | none => rfl
     | some y => rw [entGet_has hx] at hh; cases hh
    unfold moveErr2 at he
    rw [hn] at he
    unfold movedErr at he
    rw [hh] at he
    simp only [Bool.false_eq_true, if_false] at he
    split at he
    ·next e => exact absurd he e
    ·next e => exact Classical.not_not.1 e) (fun hk ha => h2 ⟨hk, ha⟩)
   have := M.mass
   have := gc_mass (moveTo d o.a o.s o.b o.t (lookOf d o.a o.s))
   omega
  ·omega
 ·omega
set_option maxRecDepth 100000
theorem Kills.sub {d d' : Nds} (k : Kills d d') {j : Int} {e : Ent} (h : e ∈ (nd d' j).ents) : e ∈ (nd d j).ents := by
 induction k with
 | refl => exact h
 | step i hi _ ih =>
  have h1 := ih h
  rw [nd_kill hi.1] at h1
  split at h1
  ·cases h1
  ·exact h1
theorem leave_length (d : Nds) (i : Int) (nm : ByteArray) : (leaveTo d i nm).length = d.length := by
 unfold leaveTo
 split
 ·rw [(gc_kills _).length]; unfold dropTo; exact length_setE _ _ _
 ·rfl
end Go.Proofs.YtijbhmledmnifaaGreatDoor
namespace Go.Proofs.YtijbhmledmnifaaGreatDoor
def KK (d d' : Nds) : Prop := d.length <= d'.length ∧ ∀ j : Int, j < d.length -> (nd d' j).kind = 0 ∨ (nd d' j).kind = (nd d j).kind
def UsrOk (d : Nds) (at' : Int) : Prop := at' < d.length ∧ ((nd d at').kind = 0 ∨ (nd d at').kind = 2)
section
variable {d d' d'' : Nds} {room : Int}
theorem KK.refl (d : Nds) : KK d d := ⟨Nat.le_refl _, fun _ _ => .inr rfl⟩
theorem KK.trans (h : KK d d') (k : KK d' d'') : KK d d'' := ⟨Nat.le_trans h.1 k.1, fun j hj => by
 rcases k.2 j (by have := h.1; omega) with e | e
 ·exact .inl e
 ·rcases h.2 j hj with f | f
  ·exact .inl (by rw [e, f])
  ·exact .inr (by rw [e, f])⟩
theorem UsrOk.kk {at' : Int} (h : UsrOk d at') (k : KK d d') : UsrOk d' at' := ⟨by have := h.1; have := k.1; omega, by
 rcases k.2 at' h.1 with e | e
 ·exact .inl e
 ·rw [e]; exact h.2⟩
theorem kk_app (n : Nd) : KK d (d ++ [n]) := ⟨by simp, fun j hj => .inr (by rw [nd_append, if_neg (by omega)])⟩
theorem kk_same (hl : d'.length = d.length) (h : SameKH d d') : KK d d' := ⟨by omega, fun j _ => (h j).elim .inl (fun e => .inr e.1)⟩
theorem kk_rel (i : Int) : KK d (relD d i) := by
 refine ⟨by rw [relD_len]; omega, fun j _ => ?_⟩
 unfold relD
 split
 ·next he =>
  have hi : has d i := fun e => by unfold relErr at he; rw [if_pos e] at he; cases he
  rcases same_gc (relTo d i) j with e | ⟨e, _⟩
  ·exact .inl e
  ·refine .inr ?_
   rw [e, nd_relTo hi]
   split
   ·next e => subst e; rfl
   ·rfl
 ·exact .inr rfl
theorem kk_enter (i : Int) (name : ByteArray) (k : Int) : KK d (enterD d room i name k) := kk_same enterD_len (same_enter _ _ _)
theorem kk_made (p : Plc) (kind m : Int) (s : ByteArray) : KK d (madeR d room p kind m s).1 := by
 unfold madeR
 split
 ·exact KK.refl d
 ·exact ((kk_app _).trans (kk_enter _ _ _)).trans (kk_rel _)
theorem kk_mkdir (at' mask : Int) (s : ByteArray) (m : Int) : KK d (mkdirR d room at' mask s m).1 := by
 unfold mkdirR
 split
 ·exact KK.refl d
 ·exact kk_made _ _ _ _
theorem kk_sym (at' : Int) (t s : ByteArray) : KK d (symR d room at' t s).1 := by
 unfold symR
 split
 ·exact KK.refl d
 ·split
  ·exact KK.refl d
  ·exact kk_made _ _ _ _
theorem kk_link (at' : Int) (o s : ByteArray) : KK d (linkR d room at' o s).1 := by
 unfold linkR
 repeat (first | exact KK.refl d | exact kk_enter _ _ _ | split)
theorem kk_rem (at' : Int) (s : ByteArray) (folder : Bool) : KK d (remR d at' s folder).1 := by
 unfold remR
 split
 ·exact KK.refl d
 ·exact kk_same (leave_length _ _ _) (same_leave _ _)
theorem moveD_length (f : Int) (name : ByteArray) (t : Int) (other : ByteArray) : (moveD d room f name t other).length = d.length := by
 unfold moveD
 split
 ·rw [(gc_kills _).length]
  unfold moveTo dropTo moveMid
  rw [length_setE, length_setE]
 ·rfl
theorem kk_ren (at' : Int) (a b : ByteArray) : KK d (renR d room at' a b).1 := by
 unfold renR
 repeat (first | exact KK.refl d | exact kk_same (moveD_length _ _ _ _) (same_move _ _ _ _) | split)
theorem chmodD_length (i m : Int) : (chmodD d i m).length = d.length := by
 unfold chmodD chmodTo
 split
 ·exact upd_length _ _ _
 ·rfl
theorem kk_chm (at' : Int) (s : ByteArray) (m : Int) : KK d (chmR d at' s m).1 := by
 unfold chmR
 split
 ·exact KK.refl d
 ·exact kk_same (chmodD_length _ _) (same_chmod _ _)
theorem moveD_mass2 (hI : DInv d) (f : Int) (nm : ByteArray) (t : Int) (o : ByteArray) : mass (moveD d room f nm t o) <= mass d + 2 := by
 have h := stepD_mass hI room ⟨9, f, t, nm, o⟩
 unfold stepD at h
 rw [if_neg (show ¬ (9 : Int) = 1 by decide), if_neg (show ¬ (9 : Int) = 2 by decide), if_neg (show ¬ (9 : Int) = 3 by decide), if_neg (show ¬ (9 : Int) = 4 by decide), if_neg (show ¬ (9 : Int) = 5 by decide), if_neg (show ¬ (9 : Int) = 6 by decide), if_neg (show ¬ (9 : Int) = 7 by decide), if_neg (show ¬ (9 : Int) = 8 by decide), if_pos (show (9 : Int) = 9 by decide)] at h
 exact h
theorem renR_mass (hI : DInv d) (at' : Int) (a b : ByteArray) : mass (renR d room at' a b).1 <= mass d + 2 := by
 unfold renR
 have hm : ∀ f nm t o, mass (moveD d room f nm t o) <= mass d + 2 := fun f nm t o => moveD_mass2 hI f nm t o
 repeat (first | exact Nat.le_add_right _ _ | exact hm _ _ _ _ | split)
end
end Go.Proofs.YtijbhmledmnifaaGreatDoor
set_option maxHeartbeats 4000000
namespace Go.Proofs.YtijbhmledmnifaaGreatDoor
open Go Go.RowKit
structure SD (B : Nat -> Prop) (w : World) (F a : Nat) (dp : Nds) (room calls fail : Int) (p : Option Addr) (c : Nat) (dr : Nds) : Prop where
 ex : ∃ N : Nat -> Prop, (∀ g, B g -> N g) ∧ FSt N w F a dp room calls fail ∧ RefAt (fun g => N g ∧ ¬ B g) w p c dr
section
variable {B B' : Nat -> Prop} {w w' : World} {F a : Nat} {dp dr d' : Nds} {room calls calls' fail : Int} {p : Option Addr} {c : Nat}
theorem SD.low (h : SD B w F a dp room calls fail p c dr) (g : Nat) (hg : B g) : g < w.heap.size := by
 obtain ⟨N, h1, h2, _⟩ := h.ex
 exact h2.low g (h1 g hg)
theorem SD.inv (h : SD B w F a dp room calls fail p c dr) : DInv dp := by obtain ⟨N, _, h2, _⟩ := h.ex; exact h2.pd.inv
theorem SD.clean (h : SD B w F a dp room calls fail p c dr) : NoGarb dp := by obtain ⟨N, _, h2, _⟩ := h.ex; exact h2.pd.clean
theorem SD.small (h : SD B w F a dp room calls fail p c dr) : smallD dp := by obtain ⟨N, _, h2, _⟩ := h.ex; exact h2.pd.small
theorem SD.cap (h : SD B w F a dp room calls fail p c dr) : dr.length <= c := by obtain ⟨N, _, _, h3⟩ := h.ex; exact h3.cap
theorem SD.max (h : SD B w F a dp room calls fail p c dr) : c <= maxLen := by obtain ⟨N, _, _, h3⟩ := h.ex; exact h3.max
theorem SD.more {G : Nat -> Prop} (h : SD B w F a dp room calls fail p c dr) (k : Keeps G w w') (hG : ∀ g, g < w.heap.size -> G g -> B g) (hB : ∀ g, B' g -> B g ∨ (w.heap.size <= g ∧ g < w'.heap.size)) : SD B' w' F a dp room calls fail p c dr := by
 obtain ⟨N, h1, h2, h3⟩ := h.ex
 have k2 : Keeps B w w' := k.mono (fun g hg hx => hG g hg hx)
 have h4 := h2.keep k2 h1
 have hl := h2.lt
 refine ⟨fun g => N g ∨ (w.heap.size <= g ∧ g < w'.heap.size), fun g hg => (hB g hg).elim (fun h => .inl (h1 g h)) .inr, ⟨h2.pd.grow k2 (fun x _ hx => .inl (h1 x hx)) (fun x hx => ?_), fun hx => hx.elim h2.notN (fun e => by omega), h4.c0, h4.c1, h4.c2, h4.fz⟩, h3.keepS k2 (fun g hg _ hx => hg.2 hx) (fun g hg hl2 => ⟨.inl hg.1, fun hx => (hB g hx).elim hg.2 (fun h => by omega)⟩)⟩
 rcases hx with (hx | hx) | rfl
 ·exact .inl (.inl hx)
 ·exact .inr hx
 ·exact .inl (.inr rfl)
theorem SD.on (h : SD B w F a dp room calls fail p c dr) (k : Keeps NoB w w') : SD B w' F a dp room calls fail p c dr := h.more k (fun _ _ hx => hx.elim) (fun _ hg => .inl hg)
theorem SD.turn {G : Nat -> Prop} (h : SD B w F a dp room calls fail p c dr) (k : Keeps G w w') (hG : ∀ g, g < w.heap.size -> G g -> B g) : SD B w' F a dp room calls fail p c dr := h.more k hG (fun _ hg => .inl hg)
theorem SD.less (h : SD B w F a dp room calls fail p c dr) (hB : ∀ g, B' g -> B g) : SD B' w F a dp room calls fail p c dr := by
 obtain ⟨N, h1, h2, h3⟩ := h.ex
 exact ⟨N, fun g hg => h1 g (hB g hg), h2, h3.keepS (Keeps.refl NoB w) (fun _ _ _ h => h) (fun g hg _ => ⟨hg.1, fun hx => hg.2 (hB g hx)⟩)⟩
def PFo (B : Nat -> Prop) (w : World) (F a : Nat) (d' : Nds) (room calls' fail : Int) (p : Option Addr) (c : Nat) (dr : Nds) (V : Value) : Ending -> World -> Prop := fun e w' =>
 e = .returned V ∧ SD B w' F a d' room calls' fail p c dr ∧ Keeps (fun g => ¬ B g) w w'
theorem SD.prog {f : Nat} {args : Array Value} {V : Value} (h : SD B w F a dp room calls fail p c dr) (hc : ∀ N : Nat -> Prop, FSt N w F a dp room calls fail -> Calls Tryz.prog f args w (FTo N w F a d' room calls' fail V)) :
  Calls Tryz.prog f args w (PFo B w F a d' room calls' fail p c dr V) := by
 obtain ⟨N, h1, h2, h3⟩ := h.ex
 refine (hc N h2).mono ?_
 rintro e w' ⟨rfl, h4, h5⟩
 exact ⟨rfl, ⟨N, h1, h4, h3.keepS h5 (fun g hg _ hx => hx hg.1) (fun g hg _ => hg)⟩, h5.mono (fun g _ hg hn => hg (h1 g hn))⟩
theorem SD.asks {f : Nat} {args : Array Value} {Q : Ending -> World -> Prop} (h : SD B w F a dp room calls fail p c dr) (hc : ∀ N : Nat -> Prop, FSt N w F a dp room calls fail -> Calls Tryz.prog f args w Q) : Calls Tryz.prog f args w Q := by
 obtain ⟨N, _, h2, _⟩ := h.ex
 exact hc N h2
def QFo (B : Nat -> Prop) (w : World) (F a : Nat) (dp : Nds) (room calls fail : Int) (d' : Nds) (V : Option Addr -> Nat -> Value) : Ending -> World -> Prop := fun e w' =>
 ∃ p' c', e = .returned (V p' c') ∧ SD B w' F a dp room calls fail p' c' d' ∧ Keeps NoB w w'
theorem SD.ref {f : Nat} {args : Array Value} {V : Option Addr -> Nat -> Value} (h : SD B w F a dp room calls fail p c dr)
  (hc : ∀ S : Nat -> Prop, RefAt S w p c dr -> (∀ g, w.heap.size <= g -> S g) -> Calls Tryz.prog f args w fun e w' => ∃ p' c', e = .returned (V p' c') ∧ RefAt S w' p' c' d' ∧ Keeps NoB w w') :
  Calls Tryz.prog f args w (QFo B w F a dp room calls fail d' V) := by
 have hlow := h.low
 obtain ⟨N, h1, h2, h3⟩ := h.ex
 refine (hc (fun g => (N g ∨ w.heap.size <= g) ∧ ¬ B g) (h3.keepS (Keeps.refl NoB w) (fun _ _ _ h => h) (fun g hg _ => ⟨.inl hg.1, hg.2⟩)) (fun g hg => ⟨.inr hg, fun hx => by have := hlow g hx; omega⟩)).mono ?_
 rintro e w' ⟨p', c', rfl, h4, h5⟩
 obtain ⟨N1, g1, g2, g3⟩ := h2.wider h5
 exact ⟨p', c', rfl, ⟨N1, fun g hg => g1 g (h1 g hg), g3, h4.keepS (Keeps.refl NoB w') (fun _ _ _ h => h) (fun g hg hl => ⟨hg.1.elim (g1 g) (fun h => g2 g h hl), hg.2⟩)⟩, h5⟩
theorem SD.rcall {f : Nat} {args : Array Value} {X : Nds × Int} {cr cr' : Int} (h : SD B w F a dp room calls fail p c dr) (hI : DInv dr) (hcl : NoGarb dr) (hnh : NH dr) (hms : mass dr + 8 <= 2147483648) (hc0 : 0 <= cr) (hc1 : cr <= 4611686018427387904)
  (hc : ∀ S : Nat -> Prop, R6 S w p c dr cr -> Calls Tryz.prog f args w (F6To S w X room cr' fail)) :
  Calls Tryz.prog f args w (QFo B w F a dp room calls fail X.1 (fun p' c' => .tuple #[fV p' c' X.1.length room cr' fail, .int .i64 X.2])) :=
 h.ref fun S hr hS => hc S ⟨hr, hS, hI, hcl, hnh, hms, hc0, hc1⟩
end
structure Sd (B : Nat -> Prop) (w : World) (B0 F a : Nat) (p : Option Addr) (c : Nat) (d : Nds) (room calls fail at' mask : Int) (k : Nat) : Prop where
 sd : SD B w F a d room calls fail p c d
 nb : B B0
 bx : Bk w B0 [.pointer (some ⟨F, 0, none⟩), .int .i64 at', .int .i64 mask, .slice p d.length c, .int .i64 room, .int .i64 calls, .int .i64 fail, .int .i64 at', .int .i64 mask]
 nh : NH d
 usr : UsrOk d at'
 m0 : 0 <= mask
 m1 : mask <= 511
 ms : mass d <= 2 + 4 * k
 c0 : 0 <= calls
 c1 : calls <= 2 * k
section
variable {B B' : Nat -> Prop} {w w' : World} {B0 F a : Nat} {d : Nds} {room calls fail at' mask : Int} {p : Option Addr} {c k : Nat}
theorem Sd.more {G : Nat -> Prop} (h : Sd B w B0 F a p c d room calls fail at' mask k) (kp : Keeps G w w') (hG : ∀ g, g < w.heap.size -> G g -> B g) (h0 : ¬ G B0) (hB : ∀ g, B' g -> B g ∨ (w.heap.size <= g ∧ g < w'.heap.size)) (hb : B' B0) : Sd B' w' B0 F a p c d room calls fail at' mask k :=
 ⟨h.sd.more kp hG hB, hb, h.bx.keep kp h0, h.nh, h.usr, h.m0, h.m1, h.ms, h.c0, h.c1⟩
theorem Sd.on (h : Sd B w B0 F a p c d room calls fail at' mask k) (kp : Keeps NoB w w') : Sd B w' B0 F a p c d room calls fail at' mask k := h.more kp (fun _ _ hx => hx.elim) (fun h => h) (fun _ hg => .inl hg) h.nb
theorem Sd.turn {G : Nat -> Prop} (h : Sd B w B0 F a p c d room calls fail at' mask k) (kp : Keeps G w w') (hG : ∀ g, g < w.heap.size -> G g -> B g) (h0 : ¬ G B0) : Sd B w' B0 F a p c d room calls fail at' mask k := h.more kp hG h0 (fun _ hg => .inl hg) h.nb
theorem Sd.less (h : Sd B w B0 F a p c d room calls fail at' mask k) (hB : ∀ g, B' g -> B g) (hb : B' B0) : Sd B' w B0 F a p c d room calls fail at' mask k := ⟨h.sd.less hB, hb, h.bx, h.nh, h.usr, h.m0, h.m1, h.ms, h.c0, h.c1⟩
end
section
variable {B : Nat -> Prop} {w w' : World} {B0 F a : Nat} {d : Nds} {room calls fail at' mask : Int} {p : Option Addr} {c k : Nat}
end
def StTo (B : Nat -> Prop) (w : World) (B0 F a : Nat) (d' : Nds) (room calls' fail at' mask : Int) (k : Nat) : Ending -> World -> Prop := fun e w' =>
 ∃ p' c', e = .returned (.bool true) ∧ Sd B w' B0 F a p' c' d' room calls' fail at' mask k ∧ Keeps (fun g => ¬ B g ∨ g = B0) w w'
noncomputable def opR (room at' mask : Int) (d : Nds) (o : OpS) : Nds × Int :=
 if o.kind = 1 then mkdirR d room at' mask o.s o.m else if o.kind = 2 then symR d room at' o.t o.s else if o.kind = 3 then linkR d room at' o.t o.s
 else if o.kind = 4 then remR d at' o.s true else if o.kind = 5 then remR d at' o.s false else if o.kind = 6 then renR d room at' o.t o.s else chmR d at' o.s o.m
theorem opR_mass {d : Nds} (hI : DInv d) (room at' mask : Int) (o : OpS) : mass (opR room at' mask d o).1 <= mass d + 3 := by
 unfold opR
 split; · exact mkdirR_mass _ _ _ _
 split; · exact symR_mass _ _ _
 split; · exact Nat.le_trans (linkR_mass _ _ _) (by omega)
 split; · exact Nat.le_trans (remR_mass hI _ _ _) (by omega)
 split; · exact Nat.le_trans (remR_mass hI _ _ _) (by omega)
 split; · exact Nat.le_trans (renR_mass hI _ _ _) (by omega)
 exact Nat.le_trans (chmR_mass _ _ _) (by omega)
theorem opR_nh {d : Nds} (h : NH d) (room at' mask : Int) (o : OpS) : NH (opR room at' mask d o).1 := by
 unfold opR
 split; · exact nh_mkdir h _ _ _ _
 split; · exact nh_sym h _ _ _
 split; · exact nh_link h _ _ _
 split; · exact nh_rem h _ _ _
 split; · exact nh_rem h _ _ _
 split; · exact nh_ren h _ _ _
 exact nh_chm h _ _ _
theorem opR_kk {d : Nds} (room at' mask : Int) (o : OpS) : KK d (opR room at' mask d o).1 := by
 unfold opR
 split; · exact kk_mkdir _ _ _ _
 split; · exact kk_sym _ _ _
 split; · exact kk_link _ _ _
 split; · exact kk_rem _ _ _
 split; · exact kk_rem _ _ _
 split; · exact kk_ren _ _ _
 exact kk_chm _ _ _
noncomputable def opF (calls fail room at' mask : Int) (d : Nds) (o : OpS) : Nds × Int := orFail calls fail d (opR room at' mask d o)
theorem opF_all {d : Nds} (hI : DInv d) (h : NH d) (calls fail room at' mask : Int) (o : OpS) : mass (opF calls fail room at' mask d o).1 <= mass d + 3 ∧ NH (opF calls fail room at' mask d o).1 ∧ KK d (opF calls fail room at' mask d o).1 := by
 unfold opF orFail
 split
 ·exact ⟨Nat.le_add_right _ _, h, KK.refl d⟩
 ·exact ⟨opR_mass hI _ _ _ _, opR_nh h _ _ _ _, opR_kk _ _ _ _⟩
end Go.Proofs.YtijbhmledmnifaaGreatDoor
