/-
  Contracts of the reference for layer 4, the eighth part: Enter.
-/
import Derived.Test.YtijbhmledmnifaaGreatDoorG04

set_option linter.unusedSimpArgs false
set_option linter.unusedVariables false

namespace Go.Proofs.YtijbhmledmnifaaGreatDoor
open Go.RowKit
set_option maxRecDepth 100000
set_option maxHeartbeats 2000000
theorem NBox.on {w1 w2 w3 : World} {v0 v1 v2 v3 v4 : Value} (h : NBox w1 w2 v0 v1 v2 v3 v4) (k : Keeps NoB w2 w3) : NBox w1 w3 v0 v1 v2 v3 v4 := by
  have l := lt_of_cell h.N0
  exact ⟨(k.cell (p := ⟨w1.heap.size, 0, none⟩) l (fun h => h)).trans h.N0, (k.cell (p := ⟨w1.heap.size, 1, none⟩) l (fun h => h)).trans h.N1, (k.cell (p := ⟨w1.heap.size, 2, none⟩) l (fun h => h)).trans h.N2, (k.cell (p := ⟨w1.heap.size, 3, none⟩) l (fun h => h)).trans h.N3,
    (k.cell (p := ⟨w1.heap.size, 4, none⟩) l (fun h => h)).trans h.N4, fun j => (k.frozen (p := ⟨w1.heap.size, j, none⟩) l (fun h => h)).trans (h.zN j)⟩
theorem wrap_wrap64 (n : Int) : IntKind.i64.wrap (wrap64 n) = wrap64 n := by rw [IntKind.wrap_i64]; unfold wrap64; omega
theorem room_cases {x r u s : Int} (h : x = if r - u < s then 20 else 0) : (r < u + s ∧ x = 20) ∨ (¬ r < u + s ∧ x = 0) := by
  by_cases c : r - u < s
  · rw [if_pos c] at h; exact .inl ⟨by omega, h⟩
  · rw [if_neg c] at h; exact .inr ⟨by omega, h⟩
section
variable {S : Nat → Prop} {w : World} {p : Option Addr} {c : Nat} {d : Nds} {room : Int}
theorem r4enter_any (h : RefAt S w p c d) (hS : ∀ g, w.heap.size ≤ g → S g) (hI : DInv d) (hs : smallD d) (i : Int) (name : ByteArray) (k : Int) (hnm : name.size ≤ maxLen) :
    Calls Tryz.prog 127 #[refV p c d room, .int .i64 i, .string name, .int .i64 k] w (RTo S w (enterD d room i name k) room (enterErr d room i name k)) := by
  have hcap := h.cap
  have hmax := h.max
  unfold maxLen at hmax
  have HFo := Lib.hid (fun (w1 : World) (hk : Keeps NoB w w1) => r4folder_any (room := room) (h.keepN hk) hI.zero i)
  have HHa := Lib.hid (fun (w1 : World) (hk : Keeps NoB w w1) => r4has_any (room := room) (h.keepN hk) hI.zero k)
  have HLk := Lib.hid (fun (w1 : World) (hk : Keeps NoB w w1) => r4links_any (room := room) (h.keepN hk) hI.zero (by have := hI.two; omega) hs k)
  have HUs := Lib.hid (fun (w1 : World) (hk : Keeps NoB w w1) => r4used_any (room := room) (h.keepN hk) hI.zero (by have := hI.two; omega) hI hs)
  have Hh := Lib.hid (fun (w1 : World) (hk : Keeps NoB w w1) => h.but2 hk)
  have B := rbox (w := w) (Keeps.refl NoB ((w.alloc (.cells #[.slice p d.length c, .int .i64 room] 35)).alloc (.cells #[.slice none 0 0, .int .i64 0] 35)))
  unfold enterD
  by_cases c0 : folderErr d i = 0
  case neg =>
    have e : enterErr d room i name k = folderErr d i := if_pos c0
    rw [e, if_neg c0]
    clear h hS hI hs e HHa HLk HUs
    generalize folderErr d i = er at *
    unfold refV at *
    go_enter Tryz.func127, Tryz.ntmps127
    go_wp2_with (go_at_call 191; refine (HFo.out _ B.keeps).mono ?_; rintro e w1 ⟨rfl, hk1⟩; (try clear A0); (try clear A1); (try clear C0); (try clear C1); (try clear zA); (try clear zC); (try clear l0); (try clear l1); (try clear R0); (try clear R1); (try clear R2); (try clear R3); (try clear R4); (try clear hgl); (try clear Q0); replace B := B.on hk1; clear hk1; have A0 := B.A0; have A1 := B.A1; have C0 := B.C0; have C1 := B.C1; have zA := B.zA; have zC := B.zC; have l0 : w.heap.size < w1.heap.size := Nat.lt_of_lt_of_le (by simp) B.size; have l1 : w.heap.size + 1 < w1.heap.size := B.size)
    (try simp only [Exit.inBlock, Exit.then])
    refine bodyPost_ret (v := .tuple #[.agg #[.slice p d.length c, .int .i64 room], .int .i64 er]) ?_ rfl ?_
    · rw [results_cell_tmp rfl]
      go_simp
    · exact rto_store (Hh.out _ B.keeps) B.keeps _ _
  case pos =>
  obtain ⟨hi, hi2⟩ := folderErr_zero c0
  have hE0 : ∀ (P : Int → Prop), P (if (nd d k).kind = 0 then 12 else if (nd d k).kind = 2 ∧ 0 < links d k then 22 else if 32768 ≤ links d k then 24
      else if putErr (nd d i).ents name ≠ 0 then putErr (nd d i).ents name else if room - used d < name.size then 20 else 0) → P (enterErr d room i name k) := fun P hP => by
    unfold enterErr; rw [if_neg (by simpa using c0)]; exact hP
  rw [c0] at HFo
  by_cases hk : has d k
  case neg =>
    have e : enterErr d room i name k = 12 := hE0 (fun x => x = 12) (if_pos (not_has hk))
    rw [e, if_neg (by decide)]
    rw [decide_eq_false hk] at HHa
    clear h hS hI hs e hE0 HLk HUs hi hi2 hk c0
    unfold refV at *
    go_enter Tryz.func127, Tryz.ntmps127
    go_wp2_with (first | (go_at_call 191; refine (HFo.out _ B.keeps).mono ?_; rintro e w1 ⟨rfl, hk1⟩; (try clear A0); (try clear A1); (try clear C0); (try clear C1); (try clear zA); (try clear zC); (try clear l0); (try clear l1); (try clear R0); (try clear R1); (try clear R2); (try clear R3); (try clear R4); (try clear hgl); (try clear Q0); replace B := B.on hk1; clear hk1; have A0 := B.A0; have A1 := B.A1; have C0 := B.C0; have C1 := B.C1; have zA := B.zA; have zC := B.zC; have l0 : w.heap.size < w1.heap.size := Nat.lt_of_lt_of_le (by simp) B.size; have l1 : w.heap.size + 1 < w1.heap.size := B.size) | (go_at_call 68; refine (HHa.out _ B.keeps).mono ?_; rintro e w1 ⟨rfl, hk1⟩; (try clear A0); (try clear A1); (try clear C0); (try clear C1); (try clear zA); (try clear zC); (try clear l0); (try clear l1); (try clear R0); (try clear R1); (try clear R2); (try clear R3); (try clear R4); (try clear hgl); (try clear Q0); replace B := B.on hk1; clear hk1; have A0 := B.A0; have A1 := B.A1; have C0 := B.C0; have C1 := B.C1; have zA := B.zA; have zC := B.zC; have l0 : w.heap.size < w1.heap.size := Nat.lt_of_lt_of_le (by simp) B.size; have l1 : w.heap.size + 1 < w1.heap.size := B.size))
    (try simp only [Exit.inBlock, Exit.then])
    refine bodyPost_ret (v := .tuple #[.agg #[.slice p d.length c, .int .i64 room], .int .i64 12]) ?_ rfl ?_
    · rw [results_cell_tmp rfl]
      go_simp
    · exact rto_store (Hh.out _ B.keeps) B.keeps _ _
  case pos =>
  rw [decide_eq_true hk] at HHa
  have hk0 : ¬ (nd d k).kind = 0 := hk
  have hE1 : ∀ (P : Int → Prop), P (if (nd d k).kind = 2 ∧ 0 < links d k then 22 else if 32768 ≤ links d k then 24
      else if putErr (nd d i).ents name ≠ 0 then putErr (nd d i).ents name else if room - used d < name.size then 20 else 0) → P (enterErr d room i name k) := fun P hP => hE0 P (by rw [if_neg hk0]; exact hP)
  have hk1 := hk
  obtain ⟨o, rfl, ho⟩ := has_nat hk1
  have hi1 := hi
  obtain ⟨t, rfl, htl⟩ := has_nat hi1
  obtain ⟨g, off, q, m, rfl, hSg, hrow⟩ := h.rowAt htl
  obtain ⟨g', off', q', m', hp', _, hrow'⟩ := h.rowAt ho
  cases hp'
  have HC := Lib.hid (fun (w1 : World) (hk1 : Keeps NoB w w1) => (⟨(hrow.keepN hk1).c0, (hrow.keepN hk1).c1, (hrow.keepN hk1).c2, (hrow.keepN hk1).c3, (hrow.keepN hk1).c4, (hrow.keepN hk1).lt, (hrow'.keepN hk1).c0⟩ : _ ∧ _ ∧ _ ∧ _ ∧ _ ∧ _ ∧ _))
  by_cases d1 : (nd d (o : Int)).kind = 2 ∧ 0 < links d (o : Int)
  · have e : enterErr d room t name o = 22 := hE1 (fun x => x = 22) (if_pos d1)
    rw [e, if_neg (by decide)]
    obtain ⟨d2, d3⟩ := d1
    have d3' : (0 : Int) < (links d (o : Int) : Int) := by omega
    rw [d2] at HC
    clear h hS hI hs e hE0 hE1 HUs hi hi2 hk hk0 hk1 hi1 c0 d2 d3 hrow hrow'
    generalize (links d (o : Int) : Int) = lks at *
    generalize (nd d (t : Int)).ents = en at *
    unfold refV at *
    go_enter Tryz.func127, Tryz.ntmps127
    go_wp2_with (first | (go_at_call 191; refine (HFo.out _ B.keeps).mono ?_; rintro e w1 ⟨rfl, hk1⟩; (try clear A0); (try clear A1); (try clear C0); (try clear C1); (try clear zA); (try clear zC); (try clear l0); (try clear l1); (try clear R0); (try clear R1); (try clear R2); (try clear R3); (try clear R4); (try clear hgl); (try clear Q0); replace B := B.on hk1; clear hk1; have A0 := B.A0; have A1 := B.A1; have C0 := B.C0; have C1 := B.C1; have zA := B.zA; have zC := B.zC; have l0 : w.heap.size < w1.heap.size := Nat.lt_of_lt_of_le (by simp) B.size; have l1 : w.heap.size + 1 < w1.heap.size := B.size) | (go_at_call 68; refine (HHa.out _ B.keeps).mono ?_; rintro e w1 ⟨rfl, hk1⟩; (try clear A0); (try clear A1); (try clear C0); (try clear C1); (try clear zA); (try clear zC); (try clear l0); (try clear l1); (try clear R0); (try clear R1); (try clear R2); (try clear R3); (try clear R4); (try clear hgl); (try clear Q0); replace B := B.on hk1; clear hk1; have A0 := B.A0; have A1 := B.A1; have C0 := B.C0; have C1 := B.C1; have zA := B.zA; have zC := B.zC; have l0 : w.heap.size < w1.heap.size := Nat.lt_of_lt_of_le (by simp) B.size; have l1 : w.heap.size + 1 < w1.heap.size := B.size; obtain ⟨R0, R1, R2, R3, R4, hgl, Q0⟩ := HC.out _ B.keeps) | (go_at_call 69; refine (HLk.out _ B.keeps).mono ?_; rintro e w1 ⟨rfl, hk1⟩; (try clear A0); (try clear A1); (try clear C0); (try clear C1); (try clear zA); (try clear zC); (try clear l0); (try clear l1); (try clear R0); (try clear R1); (try clear R2); (try clear R3); (try clear R4); (try clear hgl); (try clear Q0); replace B := B.on hk1; clear hk1; have A0 := B.A0; have A1 := B.A1; have C0 := B.C0; have C1 := B.C1; have zA := B.zA; have zC := B.zC; have l0 : w.heap.size < w1.heap.size := Nat.lt_of_lt_of_le (by simp) B.size; have l1 : w.heap.size + 1 < w1.heap.size := B.size; obtain ⟨R0, R1, R2, R3, R4, hgl, Q0⟩ := HC.out _ B.keeps))
    (try simp only [Exit.inBlock, Exit.then])
    refine bodyPost_ret (v := .tuple #[.agg #[.slice (some ⟨g, off, none⟩) d.length c, .int .i64 room], .int .i64 22]) ?_ rfl ?_
    · rw [results_cell_tmp rfl]
      go_simp
    · exact rto_store (Hh.out _ B.keeps) B.keeps _ _
  have hE2 : ∀ (P : Int → Prop), P (if 32768 ≤ links d (o : Int) then 24
      else if putErr (nd d t).ents name ≠ 0 then putErr (nd d t).ents name else if room - used d < name.size then 20 else 0) → P (enterErr d room t name o) := fun P hP => hE1 P (by rw [if_neg d1]; exact hP)
  have d1' : ((nd d (o : Int)).kind ≠ 2) ∨ ((nd d (o : Int)).kind = 2 ∧ (links d (o : Int) : Int) = 0) := by
    by_cases e2 : (nd d (o : Int)).kind = 2
    · exact .inr ⟨e2, by have := Nat.eq_zero_of_not_pos (fun h => d1 ⟨e2, h⟩); omega⟩
    · exact .inl e2
  by_cases d2 : 32768 ≤ links d (o : Int)
  · have e : enterErr d room t name o = 24 := hE2 (fun x => x = 24) (if_pos d2)
    rw [e, if_neg (by decide)]
    have d2' : (32768 : Int) ≤ (links d (o : Int) : Int) := by omega
    have d3 : (nd d (o : Int)).kind ≠ 2 := d1'.elim id (fun h => by have := h.2; omega)
    clear h hS hI hs e hE0 hE1 hE2 HUs hi hi2 hk hk0 hk1 hi1 c0 d1 d1' d2 hrow hrow'
    generalize (links d (o : Int) : Int) = lks at *
    generalize (nd d (t : Int)).ents = en at *
    generalize (nd d (o : Int)).kind = ko at *
    unfold refV at *
    go_enter Tryz.func127, Tryz.ntmps127
    go_wp2_with (first | (go_at_call 191; refine (HFo.out _ B.keeps).mono ?_; rintro e w1 ⟨rfl, hk1⟩; (try clear A0); (try clear A1); (try clear C0); (try clear C1); (try clear zA); (try clear zC); (try clear l0); (try clear l1); (try clear R0); (try clear R1); (try clear R2); (try clear R3); (try clear R4); (try clear hgl); (try clear Q0); replace B := B.on hk1; clear hk1; have A0 := B.A0; have A1 := B.A1; have C0 := B.C0; have C1 := B.C1; have zA := B.zA; have zC := B.zC; have l0 : w.heap.size < w1.heap.size := Nat.lt_of_lt_of_le (by simp) B.size; have l1 : w.heap.size + 1 < w1.heap.size := B.size) | (go_at_call 68; refine (HHa.out _ B.keeps).mono ?_; rintro e w1 ⟨rfl, hk1⟩; (try clear A0); (try clear A1); (try clear C0); (try clear C1); (try clear zA); (try clear zC); (try clear l0); (try clear l1); (try clear R0); (try clear R1); (try clear R2); (try clear R3); (try clear R4); (try clear hgl); (try clear Q0); replace B := B.on hk1; clear hk1; have A0 := B.A0; have A1 := B.A1; have C0 := B.C0; have C1 := B.C1; have zA := B.zA; have zC := B.zC; have l0 : w.heap.size < w1.heap.size := Nat.lt_of_lt_of_le (by simp) B.size; have l1 : w.heap.size + 1 < w1.heap.size := B.size; obtain ⟨R0, R1, R2, R3, R4, hgl, Q0⟩ := HC.out _ B.keeps) | (go_at_call 69; refine (HLk.out _ B.keeps).mono ?_; rintro e w1 ⟨rfl, hk1⟩; (try clear A0); (try clear A1); (try clear C0); (try clear C1); (try clear zA); (try clear zC); (try clear l0); (try clear l1); (try clear R0); (try clear R1); (try clear R2); (try clear R3); (try clear R4); (try clear hgl); (try clear Q0); replace B := B.on hk1; clear hk1; have A0 := B.A0; have A1 := B.A1; have C0 := B.C0; have C1 := B.C1; have zA := B.zA; have zC := B.zC; have l0 : w.heap.size < w1.heap.size := Nat.lt_of_lt_of_le (by simp) B.size; have l1 : w.heap.size + 1 < w1.heap.size := B.size; obtain ⟨R0, R1, R2, R3, R4, hgl, Q0⟩ := HC.out _ B.keeps))
    (try simp only [Exit.inBlock, Exit.then])
    refine bodyPost_ret (v := .tuple #[.agg #[.slice (some ⟨g, off, none⟩) d.length c, .int .i64 room], .int .i64 24]) ?_ rfl ?_
    · rw [results_cell_tmp rfl]
      go_simp
    · exact rto_store (Hh.out _ B.keeps) B.keeps _ _
  have hE3 : ∀ (P : Int → Prop), P (if putErr (nd d t).ents name ≠ 0 then putErr (nd d t).ents name else if room - used d < name.size then 20 else 0) → P (enterErr d room t name o) := fun P hP => hE2 P (by rw [if_neg d2]; exact hP)
  have d2' : ¬ (32768 ≤ (links d (o : Int) : Int)) := by omega
  have d2'' : (32768 ≤ (links d (o : Int) : Int)) = False := by simp; omega
  have hel := nd_ents_len hs (t : Int)
  have hris := (hI.node (t : Int)).rising
  have HPu := Lib.hid (fun (w2 : World) (N : Nat) (hk2 : Keeps NoB w w2) (hN : w.heap.size + 2 ≤ N) (hsz : N < w2.heap.size) => r3put_any (But3 S w N) w2 q m (nd d (t : Int)).ents name (o : Int)
      (hrow.sl.keepS hk2 (fun _ _ _ h => h) (fun g hg hl => ⟨⟨hg, by omega, by omega⟩, by omega⟩)) hris (by omega) (fun g hg => ⟨⟨hS g (by omega), by omega, by omega⟩, by omega⟩) hnm)
  by_cases d3 : putErr (nd d (t : Int)).ents name = 0
  case neg =>
    have e : enterErr d room t name o = putErr (nd d t).ents name := hE3 (fun x => x = putErr (nd d t).ents name) (if_pos d3)
    rw [e, if_neg d3]
    clear h hS hI hs e hE0 hE1 hE2 hE3 HUs hi hi2 hk hk0 hk1 hi1 c0 d1 d2 hrow hrow' hris
    generalize putErr (nd d (t : Int)).ents name = pe at *
    generalize putTo (nd d (t : Int)).ents name (o : Int) = pt at *
    generalize (links d (o : Int) : Int) = lks at *
    generalize (nd d (t : Int)).ents = en at *
    unfold refV at *
    rcases d1' with d4 | ⟨d4, d5⟩
    case' inl => generalize (nd d (o : Int)).kind = ko at *
    case' inr => rw [d4] at HC; subst d5
    all_goals
      go_enter Tryz.func127, Tryz.ntmps127
      go_wp2_with (first | (go_at_call 191; refine (HFo.out _ B.keeps).mono ?_; rintro e w1 ⟨rfl, hk1⟩; (try clear A0); (try clear A1); (try clear C0); (try clear C1); (try clear zA); (try clear zC); (try clear l0); (try clear l1); (try clear R0); (try clear R1); (try clear R2); (try clear R3); (try clear R4); (try clear hgl); (try clear Q0); replace B := B.on hk1; clear hk1; have A0 := B.A0; have A1 := B.A1; have C0 := B.C0; have C1 := B.C1; have zA := B.zA; have zC := B.zC; have l0 : w.heap.size < w1.heap.size := Nat.lt_of_lt_of_le (by simp) B.size; have l1 : w.heap.size + 1 < w1.heap.size := B.size) | (go_at_call 68; refine (HHa.out _ B.keeps).mono ?_; rintro e w1 ⟨rfl, hk1⟩; (try clear A0); (try clear A1); (try clear C0); (try clear C1); (try clear zA); (try clear zC); (try clear l0); (try clear l1); (try clear R0); (try clear R1); (try clear R2); (try clear R3); (try clear R4); (try clear hgl); (try clear Q0); replace B := B.on hk1; clear hk1; have A0 := B.A0; have A1 := B.A1; have C0 := B.C0; have C1 := B.C1; have zA := B.zA; have zC := B.zC; have l0 : w.heap.size < w1.heap.size := Nat.lt_of_lt_of_le (by simp) B.size; have l1 : w.heap.size + 1 < w1.heap.size := B.size; obtain ⟨R0, R1, R2, R3, R4, hgl, Q0⟩ := HC.out _ B.keeps) | (go_at_call 69; refine (HLk.out _ B.keeps).mono ?_; rintro e w1 ⟨rfl, hk1⟩; (try clear A0); (try clear A1); (try clear C0); (try clear C1); (try clear zA); (try clear zC); (try clear l0); (try clear l1); (try clear R0); (try clear R1); (try clear R2); (try clear R3); (try clear R4); (try clear hgl); (try clear Q0); replace B := B.on hk1; clear hk1; have A0 := B.A0; have A1 := B.A1; have C0 := B.C0; have C1 := B.C1; have zA := B.zA; have zC := B.zC; have l0 : w.heap.size < w1.heap.size := Nat.lt_of_lt_of_le (by simp) B.size; have l1 : w.heap.size + 1 < w1.heap.size := B.size; obtain ⟨R0, R1, R2, R3, R4, hgl, Q0⟩ := HC.out _ B.keeps) | (go_at_call 192; go_loud (refine (HPu.out _ w1.heap.size (B.keeps.alloc _) B.size (by simp)).mono ?_); rintro e w2 ⟨v2, rfl, hsl, hk2⟩; have B := (B.on ((Keeps.refl NoB _).alloc _)).on hk2; have A0 := B.A0; have A1 := B.A1; have C0 := B.C0; have C1 := B.C1; have zA := B.zA; have zC := B.zC))
      (try simp only [Exit.inBlock, Exit.then])
      refine bodyPost_ret (v := .tuple #[.agg #[.slice (some ⟨g, off, none⟩) d.length c, .int .i64 room], .int .i64 pe]) ?_ rfl ?_
      · rw [results_cell_tmp rfl]
        go_simp
      · exact rto_store (Hh.out _ B.keeps) B.keeps _ _
  case pos =>
  have hE4 : ∀ (P : Int → Prop), P (if room - used d < name.size then 20 else 0) → P (enterErr d room t name o) := fun P hP => hE3 P (by rw [if_neg (by simpa using d3)]; exact hP)
  rw [d3] at HPu
  rw [show putTo (nd d (t : Int)).ents name (o : Int) = entPut (nd d (t : Int)).ents name (o : Int) from if_pos d3] at HPu
  have hul := used_le2 hI hs
  have hwr : wrap64 ((used d : Int) + (name.size : Int)) = (used d : Int) + (name.size : Int) := IntWalk.wrap64_in _ (by have := (putErr_zero.1 d3).1; simp [okName] at this; omega)
  have hput := fun (w2 : World) (q2 : Option Addr) (m2 : Nat) (hk2 : Keeps NoB w w2) (hsz : w.heap.size + 2 ≤ w2.heap.size) (hx : SlAt encEnt (But2 S w) w2 q2 m2 (entPut (nd d (t : Int)).ents name (o : Int))) => r4put_any (S := But2 S w) (room := room) (h.but2 hk2) (but2_new hS hsz) t htl (by have := mass_ge d; unfold smallD at hs; omega) ((nd d (t : Int)).setEnts (entPut (nd d (t : Int)).ents name (o : Int))) q2 m2 hx
  have hlen : (enterTo d t name o).length = d.length := length_setE _ _ _
  have hfold : upd d (t : Int) ((nd d (t : Int)).setEnts (entPut (nd d (t : Int)).ents name (o : Int))) = enterTo d t name o := rfl
  have hx0 : ((nd d (t : Int)).setEnts (entPut (nd d (t : Int)).ents name (o : Int))).kind = (nd d (t : Int)).kind := rfl
  have hx1 : ((nd d (t : Int)).setEnts (entPut (nd d (t : Int)).ents name (o : Int))).mode = (nd d (t : Int)).mode := rfl
  have hx2 : ((nd d (t : Int)).setEnts (entPut (nd d (t : Int)).ents name (o : Int))).holds = (nd d (t : Int)).holds := rfl
  have hx3 : ((nd d (t : Int)).setEnts (entPut (nd d (t : Int)).ents name (o : Int))).data = (nd d (t : Int)).data := rfl
  have hx4 : ((nd d (t : Int)).setEnts (entPut (nd d (t : Int)).ents name (o : Int))).ents = entPut (nd d (t : Int)).ents name (o : Int) := rfl
  rw [hfold] at hput
  simp only [hx0, hx1, hx2, hx3, hx4] at hput
  have HP := Lib.hid hput
  have HL := Lib.hid hlen
  have hroom := room_cases (hE4 (fun x => x = (if room - used d < name.size then 20 else 0)) rfl)
  unfold refV at *
  clear h hS hI hs hE0 hE1 hE2 hE3 hE4 hi hi2 hk hk0 hk1 hi1 c0 d1 d2 hrow hrow' hris hput hlen hfold hx0 hx1 hx2 hx3 hx4 hul d3
  generalize (used d : Int) = us at *
  generalize enterTo d t name o = dd at *
  generalize entPut (nd d (t : Int)).ents name (o : Int) = ne at *
  generalize (links d (o : Int) : Int) = lks at *
  generalize (nd d (t : Int)).ents = en at *
  have hwi : IntKind.i64.wrap (us + (name.size : Int)) = us + (name.size : Int) := by rw [← hwr]; exact wrap_wrap64 _
  rcases hroom with ⟨hr, he⟩ | ⟨hr, he⟩
  · rw [he, if_neg (by decide)]
    clear he HP HL
    rcases d1' with d4 | ⟨d4, d5⟩
    case' inl => generalize (nd d (o : Int)).kind = ko at *
    case' inr => rw [d4] at HC; subst d5
    all_goals
      go_enter Tryz.func127, Tryz.ntmps127
      go_upto_region 14 with (first | (go_at_call 191; refine (HFo.out _ B.keeps).mono ?_; rintro e w1 ⟨rfl, hk1⟩; (try clear A0); (try clear A1); (try clear C0); (try clear C1); (try clear zA); (try clear zC); (try clear l0); (try clear l1); (try clear R0); (try clear R1); (try clear R2); (try clear R3); (try clear R4); (try clear hgl); (try clear Q0); replace B := B.on hk1; clear hk1; have A0 := B.A0; have A1 := B.A1; have C0 := B.C0; have C1 := B.C1; have zA := B.zA; have zC := B.zC; have l0 : w.heap.size < w1.heap.size := Nat.lt_of_lt_of_le (by simp) B.size; have l1 : w.heap.size + 1 < w1.heap.size := B.size) | (go_at_call 68; refine (HHa.out _ B.keeps).mono ?_; rintro e w1 ⟨rfl, hk1⟩; (try clear A0); (try clear A1); (try clear C0); (try clear C1); (try clear zA); (try clear zC); (try clear l0); (try clear l1); (try clear R0); (try clear R1); (try clear R2); (try clear R3); (try clear R4); (try clear hgl); (try clear Q0); replace B := B.on hk1; clear hk1; have A0 := B.A0; have A1 := B.A1; have C0 := B.C0; have C1 := B.C1; have zA := B.zA; have zC := B.zC; have l0 : w.heap.size < w1.heap.size := Nat.lt_of_lt_of_le (by simp) B.size; have l1 : w.heap.size + 1 < w1.heap.size := B.size; obtain ⟨R0, R1, R2, R3, R4, hgl, Q0⟩ := HC.out _ B.keeps) | (go_at_call 69; refine (HLk.out _ B.keeps).mono ?_; rintro e w1 ⟨rfl, hk1⟩; (try clear A0); (try clear A1); (try clear C0); (try clear C1); (try clear zA); (try clear zC); (try clear l0); (try clear l1); (try clear R0); (try clear R1); (try clear R2); (try clear R3); (try clear R4); (try clear hgl); (try clear Q0); replace B := B.on hk1; clear hk1; have A0 := B.A0; have A1 := B.A1; have C0 := B.C0; have C1 := B.C1; have zA := B.zA; have zC := B.zC; have l0 : w.heap.size < w1.heap.size := Nat.lt_of_lt_of_le (by simp) B.size; have l1 : w.heap.size + 1 < w1.heap.size := B.size; obtain ⟨R0, R1, R2, R3, R4, hgl, Q0⟩ := HC.out _ B.keeps) | (go_at_call 192; go_loud (refine (HPu.out _ w1.heap.size (B.keeps.alloc _) B.size (by simp)).mono ?_); rintro e w2 ⟨v2, rfl, hsl, hk2⟩; obtain ⟨q2, m2, rfl, hsl⟩ := hsl; have NB := nbox hk2; have Bs := B.size; replace B := (B.on ((Keeps.refl NoB _).alloc _)).on hk2; (try clear A0); (try clear A1); (try clear C0); (try clear C1); (try clear zA); (try clear zC); (try clear l0); (try clear l1); (try clear R0); (try clear R1); (try clear R2); (try clear R3); (try clear R4); (try clear hgl); (try clear Q0); have A0 := B.A0; have A1 := B.A1; have C0 := B.C0; have C1 := B.C1; have zA := B.zA; have zC := B.zC))
      clear HFo HHa HLk HPu HC hk2 hel d2' d2'' d4
      go_cut [69] from 62 to 69 (fun x wx => x = .bool true ∧ Keeps NoB w2 wx)
      case first =>
        go_region_with (go_at_call 37; refine (HUs.out _ ?_).mono ?_; (first | exact B.keeps | exact B.keeps.drew); rintro e w6 ⟨rfl, hk6⟩; (try clear A0); (try clear A1); (try clear C0); (try clear C1); (try clear zA); (try clear zC); (try clear l0); (try clear l1); (try clear R0); (try clear R1); (try clear R2); (try clear R3); (try clear R4); (try clear hgl); (try clear Q0); have hk26 : Keeps NoB w2 w6 := (by first | exact hk6 | exact ((Keeps.refl NoB _).drew).trans hk6); have B6 := B.on hk26; have A0 := B6.A0; have A1 := B6.A1)
        all_goals (go_wp2_with fail; go_meet; exact ⟨by simp [hwi, hr], by first | exact hk26 | exact hk26.drew⟩)
      case rest =>
        obtain ⟨rfl, hk26⟩ := hcut
        have B6 := B.on hk26
        have N6 := NB.on hk26
        have hsl6 := hsl.keepN hk26
        have C0 := B6.C0
        have C1 := B6.C1
        have zC := B6.zC
        have A0 := B6.A0
        have A1 := B6.A1
        clear hk26 hsl B NB
        go_wp2_with fail
        (try simp only [Exit.inBlock, Exit.then])
        refine bodyPost_ret (v := .tuple #[.agg #[.slice (some ⟨g, off, none⟩) d.length c, .int .i64 room], .int .i64 20]) ?_ rfl ?_
        · rw [results_cell_tmp rfl]
          go_simp
        · exact rto_store (Hh.out _ B6.keeps) B6.keeps _ _
  · rw [he, if_pos rfl]
    clear he
    rcases d1' with d4 | ⟨d4, d5⟩
    case' inl => generalize (nd d (o : Int)).kind = ko at *
    case' inr => rw [d4] at HC; subst d5
    all_goals
      go_enter Tryz.func127, Tryz.ntmps127
      go_upto_region 14 with (first | (go_at_call 191; refine (HFo.out _ B.keeps).mono ?_; rintro e w1 ⟨rfl, hk1⟩; (try clear A0); (try clear A1); (try clear C0); (try clear C1); (try clear zA); (try clear zC); (try clear l0); (try clear l1); (try clear R0); (try clear R1); (try clear R2); (try clear R3); (try clear R4); (try clear hgl); (try clear Q0); replace B := B.on hk1; clear hk1; have A0 := B.A0; have A1 := B.A1; have C0 := B.C0; have C1 := B.C1; have zA := B.zA; have zC := B.zC; have l0 : w.heap.size < w1.heap.size := Nat.lt_of_lt_of_le (by simp) B.size; have l1 : w.heap.size + 1 < w1.heap.size := B.size) | (go_at_call 68; refine (HHa.out _ B.keeps).mono ?_; rintro e w1 ⟨rfl, hk1⟩; (try clear A0); (try clear A1); (try clear C0); (try clear C1); (try clear zA); (try clear zC); (try clear l0); (try clear l1); (try clear R0); (try clear R1); (try clear R2); (try clear R3); (try clear R4); (try clear hgl); (try clear Q0); replace B := B.on hk1; clear hk1; have A0 := B.A0; have A1 := B.A1; have C0 := B.C0; have C1 := B.C1; have zA := B.zA; have zC := B.zC; have l0 : w.heap.size < w1.heap.size := Nat.lt_of_lt_of_le (by simp) B.size; have l1 : w.heap.size + 1 < w1.heap.size := B.size; obtain ⟨R0, R1, R2, R3, R4, hgl, Q0⟩ := HC.out _ B.keeps) | (go_at_call 69; refine (HLk.out _ B.keeps).mono ?_; rintro e w1 ⟨rfl, hk1⟩; (try clear A0); (try clear A1); (try clear C0); (try clear C1); (try clear zA); (try clear zC); (try clear l0); (try clear l1); (try clear R0); (try clear R1); (try clear R2); (try clear R3); (try clear R4); (try clear hgl); (try clear Q0); replace B := B.on hk1; clear hk1; have A0 := B.A0; have A1 := B.A1; have C0 := B.C0; have C1 := B.C1; have zA := B.zA; have zC := B.zC; have l0 : w.heap.size < w1.heap.size := Nat.lt_of_lt_of_le (by simp) B.size; have l1 : w.heap.size + 1 < w1.heap.size := B.size; obtain ⟨R0, R1, R2, R3, R4, hgl, Q0⟩ := HC.out _ B.keeps) | (go_at_call 192; go_loud (refine (HPu.out _ w1.heap.size (B.keeps.alloc _) B.size (by simp)).mono ?_); rintro e w2 ⟨v2, rfl, hsl, hk2⟩; obtain ⟨q2, m2, rfl, hsl⟩ := hsl; have NB := nbox hk2; have Bs := B.size; replace B := (B.on ((Keeps.refl NoB _).alloc _)).on hk2; (try clear A0); (try clear A1); (try clear C0); (try clear C1); (try clear zA); (try clear zC); (try clear l0); (try clear l1); (try clear R0); (try clear R1); (try clear R2); (try clear R3); (try clear R4); (try clear hgl); (try clear Q0); have A0 := B.A0; have A1 := B.A1; have C0 := B.C0; have C1 := B.C1; have zA := B.zA; have zC := B.zC))
      clear HFo HHa HLk HPu HC hk2 hel d2' d2'' d4
      go_cut [69] from 62 to 69 (fun x wx => x = .bool false ∧ Keeps NoB w2 wx)
      case first =>
        go_region_with (go_at_call 37; refine (HUs.out _ ?_).mono ?_; (first | exact B.keeps | exact B.keeps.drew); rintro e w6 ⟨rfl, hk6⟩; (try clear A0); (try clear A1); (try clear C0); (try clear C1); (try clear zA); (try clear zC); (try clear l0); (try clear l1); (try clear R0); (try clear R1); (try clear R2); (try clear R3); (try clear R4); (try clear hgl); (try clear Q0); have hk26 : Keeps NoB w2 w6 := (by first | exact hk6 | exact ((Keeps.refl NoB _).drew).trans hk6); have B6 := B.on hk26; have A0 := B6.A0; have A1 := B6.A1)
        all_goals (go_wp2_with fail; go_meet; exact ⟨by simp [hwi, hr], by first | exact hk26 | exact hk26.drew⟩)
      case rest =>
        obtain ⟨rfl, hk26⟩ := hcut
        have B6 := B.on hk26
        have N6 := NB.on hk26
        have hsl6 := hsl.keepN hk26
        have C0 := B6.C0
        have C1 := B6.C1
        have zC := B6.zC
        have A0 := B6.A0
        have A1 := B6.A1
        clear hk26 hsl B NB
        have zA := B6.zA
        have N0 := N6.N0
        have N1 := N6.N1
        have N2 := N6.N2
        have N3 := N6.N3
        have N4 := N6.N4
        have zN := N6.zN
        have nA : ¬ w.heap.size = w1.heap.size := by omega
        have nA' : ¬ w1.heap.size = w.heap.size := by omega
        go_wp2_with (go_at_call 168; go_loud (refine (HP.out _ q2 m2 (B6.set Bs _ _).keeps (B6.set Bs _ _).size (hsl6.keepS (keeps_set _ ⟨w1.heap.size, 4, none⟩ _) (fun b hb _ e => hb.2 e) (fun b hb _ => hb.1))).mono ?_); rintro e w8 ⟨v', rfl, href, hk8⟩; obtain ⟨p3, c3, hv, href⟩ := href; have B8 := (B6.set Bs 4 (.slice q2 ne.length m2)).on hk8; unfold refV at hv; rw [HL.out] at hv; subst hv; clear A0 A1 C0 C1 zC zA N0 N1 N2 N3 N4 zN; have D0 := B8.C0; have D1 := B8.C1; have zD := B8.zC)
        (try simp only [Exit.inBlock, Exit.then])
        refine bodyPost_ret (v := .tuple #[.agg #[.slice p3 d.length c3, .int .i64 room], .int .i64 0]) ?_ rfl ?_
        · rw [results_cell_tmp rfl]
          go_simp
        · have hz := rto_store (room := room) (err := 0) href B8.keeps (.slice p3 d.length c3) (.int .i64 room)
          unfold refV at hz
          rw [HL.out] at hz
          exact hz
end
end Go.Proofs.YtijbhmledmnifaaGreatDoor
