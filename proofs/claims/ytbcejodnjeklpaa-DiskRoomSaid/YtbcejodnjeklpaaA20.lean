/-
  Contracts of the reference for layer 4, the eleventh part: Move to a new name.
-/
import Derived.Test.YtbcejodnjeklpaaA18
import Derived.Deep.RegionHeld3

set_option linter.unusedSimpArgs false
set_option linter.unusedVariables false

namespace Go.Proofs.Ytbcejodnjeklpaa
open Go.RowKit
set_option maxRecDepth 100000
set_option maxHeartbeats 2000000

section
variable {S : Nat → Prop} {w : World} {p : Option Addr} {c : Nat} {d : Nds} {room : Int}

theorem wrap_move {u lo ln : Nat} (h : (u : Int) ≤ 9007199254740992) (h1 : lo ≤ 255) (h2 : ln ≤ 255) : wrap64 ((u : Int) + (lo : Int)) = (u : Int) + (lo : Int) ∧ wrap64 ((u : Int) + (lo : Int) - (ln : Int)) = (u : Int) + (lo : Int) - (ln : Int) :=
  ⟨IntWalk.wrap64_in _ (by omega), IntWalk.wrap64_in _ (by omega)⟩

theorem r4move_e6 (h : RefAt S w p c d) (hS : ∀ g, w.heap.size ≤ g → S g) (hI : DInv d) (hs : smallD d) (f : Int) (name : ByteArray) (t : Int) (other : ByteArray) (k : Int) (hos : other.size ≤ maxLen) (c0 : lookErr d f name = 0) (hkk : lookOf d f name = k) (c1 : folderErr d t = 0) (htop : (nd d k).kind = 2 → ¬ Above d k t)
    (hold : entGet (nd d t).ents other = none) (hp : putErr (nd d t).ents other ≠ 0) :
    Calls Try.prog 28 #[refV p c d room, .int .i64 f, .string name, .int .i64 t, .string other] w (RTo S w d room (putErr (nd d t).ents other)) := by
  have hcap := h.cap
  have hmax := h.max
  unfold maxLen at hmax
  obtain ⟨f0, hget⟩ := lookErr_zero c0
  rw [hkk] at hget
  obtain ⟨hf, hf2⟩ := folderErr_zero f0
  obtain ⟨ht, ht2⟩ := folderErr_zero c1
  have hk : has d k := (hI.tgt f _ (entGet_mem hget)).1
  have hk1 : k ≠ 1 := (hI.tgt f _ (entGet_mem hget)).2
  have hns : name.size ≤ 255 := okName_size ((hI.node f).names _ (entGet_mem hget))
  have HFo := Lib.hid (fun (w1 : World) (hk : Keeps NoB w w1) => r4folder_any (room := room) (h.keepN hk) hI.zero t)
  have HLk := Lib.hid (fun (w1 : World) (hk : Keeps NoB w w1) => r4look_any (room := room) (h.keepN hk) hI f name)
  have HLo := Lib.hid (fun (w1 : World) (hk : Keeps NoB w w1) => r4look_any (room := room) (h.keepN hk) hI t other)
  have HUs := Lib.hid (fun (w1 : World) (hk : Keeps NoB w w1) => r4used_any (room := room) (h.keepN hk) hI.zero (by have := hI.two; omega) hI hs)
  have HBe := Lib.hid (fun (h2 : (nd d k).kind = 2) (w1 : World) (hkx : Keeps NoB w w1) => r4below_says (room := room) (h.keepN hkx) hI hs t k ht2 hk1 false ⟨(fun h => by cases h), fun h => absurd h (htop h2)⟩)
  have e1 : lookErr d t other = 12 := by unfold lookErr; rw [if_neg (by simpa using c1), hold]; rfl
  have e2 : lookOf d t other = 0 := by unfold lookOf; rw [if_neg (by simpa using c1), hold]; rfl
  rw [c0, hkk] at HLk
  rw [c1] at HFo
  rw [e1, e2] at HLo
  have Hh := Lib.hid (fun (w1 : World) (hk : Keeps NoB w w1) => h.but2 hk)
  have B := rbox (w := w) (Keeps.refl NoB ((w.alloc (.cells #[.slice p d.length c, .int .i64 room] 39)).alloc (.cells #[.slice none 0 0, .int .i64 0] 39)))
  have helT := nd_ents_len hs t
  obtain ⟨F, T, K, g, off, q, q', m, m', rfl, rfl, rfl, hF, hT, hK, rfl, hSg, hsl, hsl', hg1, hc⟩ := move_rows h hf ht hk
  have HC := Lib.hid hc
  have hkd : ((nd d (K : Int)).kind = 2) ∨ ((nd d (K : Int)).kind ≠ 2) := Classical.em _
  have HPu := Lib.hid (fun (w1 : World) (hk1 : Keeps NoB w w1) => r3put_any S w1 q' m' (nd d (T : Int)).ents other (K : Int) (hsl'.keepN hk1) (hI.node (T : Int)).rising (by omega) (fun g hg => hS g (by have := hk1.size; omega)) hos)
  clear h hS hI hs hc hsl hsl' f0 hget c0 c1 hkk htop hf ht hk hk1 hf2 ht2 hold e1 e2 helT HUs hns
  generalize putErr (nd d (T : Int)).ents other = pe at *
  generalize putTo (nd d (T : Int)).ents other (K : Int) = pt at *
  generalize (nd d (F : Int)).ents = eF at *
  generalize (nd d (T : Int)).ents = eT at *
  unfold refV at *
  rcases hkd with hkd | hkd
  case' inl => rw [hkd] at HC; replace HBe := Lib.hid (HBe.out hkd); clear hkd
  case' inr => clear HBe; generalize (nd d (K : Int)).kind = ko at *
  all_goals
    go_enter Try.func28, Try.ntmps28
    go_wp2_with (first | (go_at_call 27; have HX := HLk; clear HLk; refine (HX.out _ B.keeps).mono ?_; clear HX; rintro e w1 ⟨rfl, hk1⟩; (try clear A0); (try clear A1); (try clear C0); (try clear C1); (try clear zA); (try clear zC); (try clear l0); (try clear l1); (try clear R0); (try clear R1); (try clear R2); (try clear R3); (try clear R4); (try clear hgl); (try clear Q0); (try clear T4); replace B := B.on hk1; clear hk1; have A0 := B.A0; have A1 := B.A1; have C0 := B.C0; have C1 := B.C1; have zA := B.zA; have zC := B.zC; have l0 : w.heap.size < w1.heap.size := Nat.lt_of_lt_of_le (by simp) B.size; have l1 : w.heap.size + 1 < w1.heap.size := B.size; obtain ⟨R0, R1, R2, R3, R4, hgl, Q0, T4⟩ := HC.out _ B.keeps) | (go_at_call 27; have HX := HLo; clear HLo; refine (HX.out _ B.keeps).mono ?_; clear HX; rintro e w1 ⟨rfl, hk1⟩; (try clear A0); (try clear A1); (try clear C0); (try clear C1); (try clear zA); (try clear zC); (try clear l0); (try clear l1); (try clear R0); (try clear R1); (try clear R2); (try clear R3); (try clear R4); (try clear hgl); (try clear Q0); (try clear T4); replace B := B.on hk1; clear hk1; have A0 := B.A0; have A1 := B.A1; have C0 := B.C0; have C1 := B.C1; have zA := B.zA; have zC := B.zC; have l0 : w.heap.size < w1.heap.size := Nat.lt_of_lt_of_le (by simp) B.size; have l1 : w.heap.size + 1 < w1.heap.size := B.size; obtain ⟨R0, R1, R2, R3, R4, hgl, Q0, T4⟩ := HC.out _ B.keeps) | (go_at_call 38; refine (HFo.out _ B.keeps).mono ?_; rintro e w1 ⟨rfl, hk1⟩; (try clear A0); (try clear A1); (try clear C0); (try clear C1); (try clear zA); (try clear zC); (try clear l0); (try clear l1); (try clear R0); (try clear R1); (try clear R2); (try clear R3); (try clear R4); (try clear hgl); (try clear Q0); (try clear T4); replace B := B.on hk1; clear hk1; have A0 := B.A0; have A1 := B.A1; have C0 := B.C0; have C1 := B.C1; have zA := B.zA; have zC := B.zC; have l0 : w.heap.size < w1.heap.size := Nat.lt_of_lt_of_le (by simp) B.size; have l1 : w.heap.size + 1 < w1.heap.size := B.size; obtain ⟨R0, R1, R2, R3, R4, hgl, Q0, T4⟩ := HC.out _ B.keeps) | (go_at_call 59; refine (HBe.out _ B.keeps).mono ?_; rintro e w1 ⟨rfl, hk1⟩; (try clear A0); (try clear A1); (try clear C0); (try clear C1); (try clear zA); (try clear zC); (try clear l0); (try clear l1); (try clear R0); (try clear R1); (try clear R2); (try clear R3); (try clear R4); (try clear hgl); (try clear Q0); (try clear T4); replace B := B.on hk1; clear hk1; have A0 := B.A0; have A1 := B.A1; have C0 := B.C0; have C1 := B.C1; have zA := B.zA; have zC := B.zC; have l0 : w.heap.size < w1.heap.size := Nat.lt_of_lt_of_le (by simp) B.size; have l1 : w.heap.size + 1 < w1.heap.size := B.size; obtain ⟨R0, R1, R2, R3, R4, hgl, Q0, T4⟩ := HC.out _ B.keeps) | (go_at_call 61; have HX := HPu; clear HPu; go_loud (refine (HX.out _ B.keeps).mono ?_); clear HX; rintro e w1 ⟨v2, rfl, -, hk1⟩; (try clear A0); (try clear A1); (try clear C0); (try clear C1); (try clear zA); (try clear zC); (try clear l0); (try clear l1); (try clear R0); (try clear R1); (try clear R2); (try clear R3); (try clear R4); (try clear hgl); (try clear Q0); (try clear T4); replace B := B.on hk1; clear hk1; have A0 := B.A0; have A1 := B.A1; have C0 := B.C0; have C1 := B.C1; have zA := B.zA; have zC := B.zC; obtain ⟨R0, R1, R2, R3, R4, hgl, Q0, T4⟩ := HC.out _ B.keeps))
    (try simp only [Exit.inBlock, Exit.then])
    refine bodyPost_ret (v := .tuple #[.agg #[.slice (some ⟨g, off, none⟩) d.length c, .int .i64 room], .int .i64 pe]) ?_ rfl ?_
    · rw [results_cell_tmp rfl]
      go_simp
    · exact rto_store (Hh.out _ B.keeps) B.keeps _ _

theorem r4move_e7 (h : RefAt S w p c d) (hS : ∀ g, w.heap.size ≤ g → S g) (hI : DInv d) (hs : smallD d) (f : Int) (name : ByteArray) (t : Int) (other : ByteArray) (k : Int) (hos : other.size ≤ maxLen) (c0 : lookErr d f name = 0) (hkk : lookOf d f name = k) (c1 : folderErr d t = 0) (htop : (nd d k).kind = 2 → ¬ Above d k t)
    (hold : entGet (nd d t).ents other = none) (hp : putErr (nd d t).ents other = 0) (hr : room < used d + other.size - name.size) :
    Calls Try.prog 28 #[refV p c d room, .int .i64 f, .string name, .int .i64 t, .string other] w (RTo S w d room 20) := by
  have hcap := h.cap
  have hmax := h.max
  unfold maxLen at hmax
  obtain ⟨f0, hget⟩ := lookErr_zero c0
  rw [hkk] at hget
  obtain ⟨hf, hf2⟩ := folderErr_zero f0
  obtain ⟨ht, ht2⟩ := folderErr_zero c1
  have hk : has d k := (hI.tgt f _ (entGet_mem hget)).1
  have hk1 : k ≠ 1 := (hI.tgt f _ (entGet_mem hget)).2
  have hns : name.size ≤ 255 := okName_size ((hI.node f).names _ (entGet_mem hget))
  have HFo := Lib.hid (fun (w1 : World) (hk : Keeps NoB w w1) => r4folder_any (room := room) (h.keepN hk) hI.zero t)
  have HLk := Lib.hid (fun (w1 : World) (hk : Keeps NoB w w1) => r4look_any (room := room) (h.keepN hk) hI f name)
  have HLo := Lib.hid (fun (w1 : World) (hk : Keeps NoB w w1) => r4look_any (room := room) (h.keepN hk) hI t other)
  have HUs := Lib.hid (fun (w1 : World) (hk : Keeps NoB w w1) => r4used_any (room := room) (h.keepN hk) hI.zero (by have := hI.two; omega) hI hs)
  have HBe := Lib.hid (fun (h2 : (nd d k).kind = 2) (w1 : World) (hkx : Keeps NoB w w1) => r4below_says (room := room) (h.keepN hkx) hI hs t k ht2 hk1 false ⟨(fun h => by cases h), fun h => absurd h (htop h2)⟩)
  have e1 : lookErr d t other = 12 := by unfold lookErr; rw [if_neg (by simpa using c1), hold]; rfl
  have e2 : lookOf d t other = 0 := by unfold lookOf; rw [if_neg (by simpa using c1), hold]; rfl
  rw [c0, hkk] at HLk
  rw [c1] at HFo
  rw [e1, e2] at HLo
  have Hh := Lib.hid (fun (w1 : World) (hk : Keeps NoB w w1) => h.but2 hk)
  have B := rbox (w := w) (Keeps.refl NoB ((w.alloc (.cells #[.slice p d.length c, .int .i64 room] 39)).alloc (.cells #[.slice none 0 0, .int .i64 0] 39)))
  have helT := nd_ents_len hs t
  obtain ⟨F, T, K, g, off, q, q', m, m', rfl, rfl, rfl, hF, hT, hK, rfl, hSg, hsl, hsl', hg1, hc⟩ := move_rows h hf ht hk
  have HC := Lib.hid hc
  have hkd : ((nd d (K : Int)).kind = 2) ∨ ((nd d (K : Int)).kind ≠ 2) := Classical.em _
  have HPu := Lib.hid (fun (w1 : World) (hk1 : Keeps NoB w w1) => r3put_any S w1 q' m' (nd d (T : Int)).ents other (K : Int) (hsl'.keepN hk1) (hI.node (T : Int)).rising (by omega) (fun g hg => hS g (by have := hk1.size; omega)) hos)
  have hul := used_le2 hI hs
  have hob : other.size ≤ 255 := okName_size (putErr_zero.1 hp).1
  obtain ⟨hwa, hwb⟩ := wrap_move hul hob hns
  rw [hp] at HPu
  unfold refV at *
  clear h hS hI hs hc hsl hsl' f0 hget c0 c1 hkk htop hf ht hk hk1 hf2 ht2 hold e1 e2 helT hns hul hob hp
  generalize (used d : Int) = us at *
  have hwi : IntKind.i64.wrap (us + (other.size : Int)) = us + (other.size : Int) := by rw [← hwa]; exact wrap_wrap64 _
  have hwj : IntKind.i64.wrap (us + (other.size : Int) - (name.size : Int)) = us + (other.size : Int) - (name.size : Int) := by rw [← hwb]; exact wrap_wrap64 _
  generalize putTo (nd d (T : Int)).ents other (K : Int) = pt at *
  generalize (nd d (F : Int)).ents = eF at *
  generalize (nd d (T : Int)).ents = eT at *
  rcases hkd with hkd | hkd
  case' inl => rw [hkd] at HC; replace HBe := Lib.hid (HBe.out hkd); clear hkd
  case' inr => clear HBe; generalize (nd d (K : Int)).kind = ko at *
  all_goals
      go_enter Try.func28, Try.ntmps28
      go_upto_region 19 with (first | (go_at_call 27; have HX := HLk; clear HLk; refine (HX.out _ B.keeps).mono ?_; clear HX; rintro e w1 ⟨rfl, hk1⟩; (try clear A0); (try clear A1); (try clear C0); (try clear C1); (try clear zA); (try clear zC); (try clear l0); (try clear l1); (try clear R0); (try clear R1); (try clear R2); (try clear R3); (try clear R4); (try clear hgl); (try clear Q0); (try clear T4); replace B := B.on hk1; clear hk1; have A0 := B.A0; have A1 := B.A1; have C0 := B.C0; have C1 := B.C1; have zA := B.zA; have zC := B.zC; have l0 : w.heap.size < w1.heap.size := Nat.lt_of_lt_of_le (by simp) B.size; have l1 : w.heap.size + 1 < w1.heap.size := B.size; obtain ⟨R0, R1, R2, R3, R4, hgl, Q0, T4⟩ := HC.out _ B.keeps) | (go_at_call 27; have HX := HLo; clear HLo; refine (HX.out _ B.keeps).mono ?_; clear HX; rintro e w1 ⟨rfl, hk1⟩; (try clear A0); (try clear A1); (try clear C0); (try clear C1); (try clear zA); (try clear zC); (try clear l0); (try clear l1); (try clear R0); (try clear R1); (try clear R2); (try clear R3); (try clear R4); (try clear hgl); (try clear Q0); (try clear T4); replace B := B.on hk1; clear hk1; have A0 := B.A0; have A1 := B.A1; have C0 := B.C0; have C1 := B.C1; have zA := B.zA; have zC := B.zC; have l0 : w.heap.size < w1.heap.size := Nat.lt_of_lt_of_le (by simp) B.size; have l1 : w.heap.size + 1 < w1.heap.size := B.size; obtain ⟨R0, R1, R2, R3, R4, hgl, Q0, T4⟩ := HC.out _ B.keeps) | (go_at_call 38; refine (HFo.out _ B.keeps).mono ?_; rintro e w1 ⟨rfl, hk1⟩; (try clear A0); (try clear A1); (try clear C0); (try clear C1); (try clear zA); (try clear zC); (try clear l0); (try clear l1); (try clear R0); (try clear R1); (try clear R2); (try clear R3); (try clear R4); (try clear hgl); (try clear Q0); (try clear T4); replace B := B.on hk1; clear hk1; have A0 := B.A0; have A1 := B.A1; have C0 := B.C0; have C1 := B.C1; have zA := B.zA; have zC := B.zC; have l0 : w.heap.size < w1.heap.size := Nat.lt_of_lt_of_le (by simp) B.size; have l1 : w.heap.size + 1 < w1.heap.size := B.size; obtain ⟨R0, R1, R2, R3, R4, hgl, Q0, T4⟩ := HC.out _ B.keeps) | (go_at_call 59; refine (HBe.out _ B.keeps).mono ?_; rintro e w1 ⟨rfl, hk1⟩; (try clear A0); (try clear A1); (try clear C0); (try clear C1); (try clear zA); (try clear zC); (try clear l0); (try clear l1); (try clear R0); (try clear R1); (try clear R2); (try clear R3); (try clear R4); (try clear hgl); (try clear Q0); (try clear T4); replace B := B.on hk1; clear hk1; have A0 := B.A0; have A1 := B.A1; have C0 := B.C0; have C1 := B.C1; have zA := B.zA; have zC := B.zC; have l0 : w.heap.size < w1.heap.size := Nat.lt_of_lt_of_le (by simp) B.size; have l1 : w.heap.size + 1 < w1.heap.size := B.size; obtain ⟨R0, R1, R2, R3, R4, hgl, Q0, T4⟩ := HC.out _ B.keeps) | (go_at_call 61; have HX := HPu; clear HPu; go_loud (refine (HX.out _ B.keeps).mono ?_); clear HX; rintro e w1 ⟨v2, rfl, -, hk1⟩; (try clear A0); (try clear A1); (try clear C0); (try clear C1); (try clear zA); (try clear zC); (try clear l0); (try clear l1); (try clear R0); (try clear R1); (try clear R2); (try clear R3); (try clear R4); (try clear hgl); (try clear Q0); (try clear T4); replace B := B.on hk1; clear hk1; have A0 := B.A0; have A1 := B.A1; have C0 := B.C0; have C1 := B.C1; have zA := B.zA; have zC := B.zC; obtain ⟨R0, R1, R2, R3, R4, hgl, Q0, T4⟩ := HC.out _ B.keeps))
      go_cut [104] from 94 to 104 (fun x wx => x = .bool true ∧ Keeps NoB w1 wx)
      case first =>
        have kr : Keeps NoB w1 w1 := Keeps.refl NoB w1
        have krd : Keeps NoB w1 w1.drew := kr.drew
        have Bd := B.on krd
        go_region_held3 (fun wz => wz.cell? ⟨w.heap.size, 0, none⟩ = some (.slice (some ⟨g, off, none⟩) d.length c) ∧ wz.cell? ⟨w.heap.size, 1, none⟩ = some (.int .i64 room) ∧ Keeps NoB w1 wz) (first | exact ⟨B.A0, B.A1, kr⟩ | exact ⟨Bd.A0, Bd.A1, krd⟩ | exact ⟨B6.A0, B6.A1, hk26⟩ | exact ⟨B6d.A0, B6d.A1, hk26d⟩)
          (first | (go_at_call 31; refine (HUs.out _ (B.keeps.trans (by assumption))).mono ?_; rintro e w6 ⟨rfl, hk6⟩; have hk26 : Keeps NoB w1 w6 := Keeps.trans (by assumption) hk6; have B6 := B.on hk26; have hk26d := hk26.drew; have B6d := B.on hk26d; have A06 := B6.A0; have A16 := B6.A1))
        all_goals (go_wp2_with fail; go_meet; exact ⟨by simp [hwi, hwj, hr], by first | exact hk26 | exact hk26.drew⟩)
      case rest =>
        obtain ⟨rfl, hk26⟩ := hcut
        have B6 := B.on hk26
        (try clear A0); (try clear A1); (try clear C0); (try clear C1); (try clear zA); (try clear zC); (try clear l0); (try clear l1); (try clear R0); (try clear R1); (try clear R2); (try clear R3); (try clear R4); (try clear hgl); (try clear Q0); (try clear T4)
        have C0 := B6.C0
        have C1 := B6.C1
        have zC := B6.zC
        have A0 := B6.A0
        have A1 := B6.A1
        go_wp2_with fail
        (try simp only [Exit.inBlock, Exit.then])
        refine bodyPost_ret (v := .tuple #[.agg #[.slice (some ⟨g, off, none⟩) d.length c, .int .i64 room], .int .i64 20]) ?_ rfl ?_
        · rw [results_cell_tmp rfl]
          go_simp
        · exact rto_store (Hh.out _ B6.keeps) B6.keeps _ _

end

end Go.Proofs.Ytbcejodnjeklpaa
