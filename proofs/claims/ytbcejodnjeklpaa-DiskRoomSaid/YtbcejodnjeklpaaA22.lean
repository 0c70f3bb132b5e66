/-
  Contracts of the reference for layer 4: Write.
-/
import Derived.Test.YtbcejodnjeklpaaA18
import Derived.Test.YtbcejodnjeklpaaA12
import Derived.StillTailTactics

set_option linter.unusedSimpArgs false
set_option linter.unusedVariables false

namespace Go.Proofs.Ytbcejodnjeklpaa
open Go.RowKit
set_option maxRecDepth 100000
set_option maxHeartbeats 2000000

theorem wr_sum {X L : Nat} (hX : X + L ≤ 4194304) : wrap64 ((X : Int) + (L : Int)) = (X : Int) + (L : Int) ∧ ¬ ((4194304 : Int) < (X : Int)) ∧ ¬ ((4194304 : Int) < (X : Int) + (L : Int)) := ⟨IntWalk.wrap64_in _ (by omega), by omega, by omega⟩
theorem wr_sum2 {x : Int} {L : Nat} (h0 : ¬ x < 0) (h1 : ¬ 4194304 < x) (hL : L ≤ 4294967296) (h : 4194304 - x < L) : wrap64 (x + (L : Int)) = x + (L : Int) ∧ 4194304 < x + (L : Int) := ⟨IntWalk.wrap64_in _ (by omega), by omega⟩

/-- The end lies behind. -/
theorem wr_past {u n X L : Nat} (hul : (u : Int) ≤ 9007199254740992) (hX : X + L ≤ 4194304) (hn : n ≤ 4194304) (h : n < X + L) : (n : Int) < (X : Int) + (L : Int) ∧ max n (X + L) = X + L ∧
    wrap64 ((u : Int) + ((X : Int) + (L : Int))) = (u : Int) + ((X : Int) + (L : Int)) ∧ wrap64 ((u : Int) + ((X : Int) + (L : Int)) - (n : Int)) = (u : Int) + ((X : Int) + (L : Int)) - (n : Int) :=
  ⟨by omega, by omega, IntWalk.wrap64_in _ (by omega), IntWalk.wrap64_in _ (by omega)⟩
/-- The end stays. -/
theorem wr_in {u n X L : Nat} (hul : (u : Int) ≤ 9007199254740992) (hn : n ≤ 4194304) (h : ¬ n < X + L) : ¬ ((n : Int) < (X : Int) + (L : Int)) ∧ max n (X + L) = n ∧
    wrap64 ((u : Int) + (n : Int)) = (u : Int) + (n : Int) ∧ wrap64 (u : Int) = (u : Int) :=
  ⟨by omega, by omega, IntWalk.wrap64_in _ (by omega), IntWalk.wrap64_in _ (by omega)⟩

section
variable {S : Nat → Prop} {w : World} {p : Option Addr} {c : Nat} {d : Nds} {room : Int}

theorem r4write_err (h : RefAt S w p c d) (hI : DInv d) (i x : Int) (s : ByteArray) (hsz : s.size ≤ 4294967296) (he : fileErr d i ≠ 0 ∨ x < 0 ∨ s.size = 0 ∨ 4194304 < x ∨ 4194304 - x < s.size) :
    Calls Try.prog 44 #[refV p c d room, .int .i64 i, .int .i64 x, .string s] w (RTo S w d room (writeErr d room i x s)) := by
  have HFi := Lib.hid (fun (w1 : World) (hk : Keeps NoB w w1) => r4file_any (room := room) (h.keepN hk) hI i)
  have Hh := Lib.hid (fun (w1 : World) (hk : Keeps NoB w w1) => h.but2 hk)
  have B := rbox (w := w) (Keeps.refl NoB ((w.alloc (.cells #[.slice p d.length c, .int .i64 room] 39)).alloc (.cells #[.slice none 0 0, .int .i64 0] 39)))
  clear h hI
  unfold refV at *
  unfold writeErr
  by_cases c0 : fileErr d i = 0
  case neg =>
    rw [if_pos c0]
    clear he
    generalize fileErr d i = er at *
    go_enter Try.func44, Try.ntmps44
    go_wp2_with (go_at_call 72; refine (HFi.out _ B.keeps).mono ?_; rintro e w1 ⟨rfl, hk1⟩; (try clear A0); (try clear A1); (try clear C0); (try clear C1); (try clear zA); (try clear zC); (try clear l0); (try clear l1); (try clear R0); (try clear R1); (try clear R2); (try clear R3); (try clear R4); (try clear hgl); (try clear Q0); (try clear T4); replace B := B.on hk1; clear hk1; have A0 := B.A0; have A1 := B.A1; have C0 := B.C0; have C1 := B.C1; have zA := B.zA; have zC := B.zC; have l0 : w.heap.size < w1.heap.size := Nat.lt_of_lt_of_le (by simp) B.size; have l1 : w.heap.size + 1 < w1.heap.size := B.size)
    (try simp only [Exit.inBlock, Exit.then])
    refine bodyPost_ret (v := .tuple #[.agg #[.slice p d.length c, .int .i64 room], .int .i64 er]) ?_ rfl ?_
    · rw [results_cell_tmp rfl]
      go_simp
    · exact rto_store (Hh.out _ B.keeps) B.keeps _ _
  case pos =>
  rw [if_neg (by simpa using c0)]
  rw [c0] at HFi
  replace he := he.resolve_left (by simpa using c0)
  clear c0
  by_cases c1 : x < 0
  · rw [if_pos c1]
    clear he
    go_enter Try.func44, Try.ntmps44
    go_wp2_with (go_at_call 72; refine (HFi.out _ B.keeps).mono ?_; rintro e w1 ⟨rfl, hk1⟩; (try clear A0); (try clear A1); (try clear C0); (try clear C1); (try clear zA); (try clear zC); (try clear l0); (try clear l1); (try clear R0); (try clear R1); (try clear R2); (try clear R3); (try clear R4); (try clear hgl); (try clear Q0); (try clear T4); replace B := B.on hk1; clear hk1; have A0 := B.A0; have A1 := B.A1; have C0 := B.C0; have C1 := B.C1; have zA := B.zA; have zC := B.zC; have l0 : w.heap.size < w1.heap.size := Nat.lt_of_lt_of_le (by simp) B.size; have l1 : w.heap.size + 1 < w1.heap.size := B.size)
    (try simp only [Exit.inBlock, Exit.then])
    refine bodyPost_ret (v := .tuple #[.agg #[.slice p d.length c, .int .i64 room], .int .i64 10]) ?_ rfl ?_
    · rw [results_cell_tmp rfl]
      go_simp
    · exact rto_store (Hh.out _ B.keeps) B.keeps _ _
  rw [if_neg c1]
  replace he := he.resolve_left c1
  by_cases c2 : s.size = 0
  · rw [if_pos c2]
    have hs : s = ⟨#[]⟩ := ByteArray.ext (Array.eq_empty_of_size_eq_zero c2)
    subst hs
    clear he
    go_enter Try.func44, Try.ntmps44
    go_wp2_with (go_at_call 72; refine (HFi.out _ B.keeps).mono ?_; rintro e w1 ⟨rfl, hk1⟩; (try clear A0); (try clear A1); (try clear C0); (try clear C1); (try clear zA); (try clear zC); (try clear l0); (try clear l1); (try clear R0); (try clear R1); (try clear R2); (try clear R3); (try clear R4); (try clear hgl); (try clear Q0); (try clear T4); replace B := B.on hk1; clear hk1; have A0 := B.A0; have A1 := B.A1; have C0 := B.C0; have C1 := B.C1; have zA := B.zA; have zC := B.zC; have l0 : w.heap.size < w1.heap.size := Nat.lt_of_lt_of_le (by simp) B.size; have l1 : w.heap.size + 1 < w1.heap.size := B.size)
    (try simp only [Exit.inBlock, Exit.then])
    refine bodyPost_ret (v := .tuple #[.agg #[.slice p d.length c, .int .i64 room], .int .i64 0]) ?_ rfl ?_
    · rw [results_cell_tmp rfl]
      go_simp
    · exact rto_store (Hh.out _ B.keeps) B.keeps _ _
  rw [if_neg c2]
  replace he := he.resolve_left c2
  have hne : (s.toList == []) = false := beq_false_of_ne (fun e => c2 ((toList_nil s).1 e))
  by_cases c3 : 4194304 < x
  · rw [if_pos c3]
    clear he
    go_enter Try.func44, Try.ntmps44
    go_wp2_with (go_at_call 72; refine (HFi.out _ B.keeps).mono ?_; rintro e w1 ⟨rfl, hk1⟩; (try clear A0); (try clear A1); (try clear C0); (try clear C1); (try clear zA); (try clear zC); (try clear l0); (try clear l1); (try clear R0); (try clear R1); (try clear R2); (try clear R3); (try clear R4); (try clear hgl); (try clear Q0); (try clear T4); replace B := B.on hk1; clear hk1; have A0 := B.A0; have A1 := B.A1; have C0 := B.C0; have C1 := B.C1; have zA := B.zA; have zC := B.zC; have l0 : w.heap.size < w1.heap.size := Nat.lt_of_lt_of_le (by simp) B.size; have l1 : w.heap.size + 1 < w1.heap.size := B.size)
    (try simp only [Exit.inBlock, Exit.then])
    refine bodyPost_ret (v := .tuple #[.agg #[.slice p d.length c, .int .i64 room], .int .i64 18]) ?_ rfl ?_
    · rw [results_cell_tmp rfl]
      go_simp
    · exact rto_store (Hh.out _ B.keeps) B.keeps _ _
  rw [if_neg c3]
  replace he := he.resolve_left c3
  rw [if_pos he]
  obtain ⟨hwx, he'⟩ := wr_sum2 c1 c3 hsz he
  clear he
  go_enter Try.func44, Try.ntmps44
  go_wp2_with (go_at_call 72; refine (HFi.out _ B.keeps).mono ?_; rintro e w1 ⟨rfl, hk1⟩; (try clear A0); (try clear A1); (try clear C0); (try clear C1); (try clear zA); (try clear zC); (try clear l0); (try clear l1); (try clear R0); (try clear R1); (try clear R2); (try clear R3); (try clear R4); (try clear hgl); (try clear Q0); (try clear T4); replace B := B.on hk1; clear hk1; have A0 := B.A0; have A1 := B.A1; have C0 := B.C0; have C1 := B.C1; have zA := B.zA; have zC := B.zC; have l0 : w.heap.size < w1.heap.size := Nat.lt_of_lt_of_le (by simp) B.size; have l1 : w.heap.size + 1 < w1.heap.size := B.size)
  (try simp only [Exit.inBlock, Exit.then])
  refine bodyPost_ret (v := .tuple #[.agg #[.slice p d.length c, .int .i64 room], .int .i64 18]) ?_ rfl ?_
  · rw [results_cell_tmp rfl]
    go_simp
  · exact rto_store (Hh.out _ B.keeps) B.keeps _ _

theorem r4write_room (h : RefAt S w p c d) (hS : ∀ g, w.heap.size ≤ g → S g) (hI : DInv d) (hs : smallD d) (i : Int) (X : Nat) (s : ByteArray) (c0 : fileErr d i = 0) (c2 : s.size ≠ 0) (hX : X + s.size ≤ 4194304) (hrm : room < used d + endOf d i X s - (nd d i).data.size) :
    Calls Try.prog 44 #[refV p c d room, .int .i64 i, .int .i64 X, .string s] w (RTo S w d room 20) := by
  have HFi := Lib.hid (fun (w1 : World) (hk : Keeps NoB w w1) => r4file_any (room := room) (h.keepN hk) hI i)
  have HUs := Lib.hid (fun (w1 : World) (hk : Keeps NoB w w1) => r4used_any (room := room) (h.keepN hk) hI.zero (Nat.le_of_lt hI.two) hI hs)
  have Hh := Lib.hid (fun (w1 : World) (hk : Keeps NoB w w1) => h.but2 hk)
  have B := rbox (w := w) (Keeps.refl NoB ((w.alloc (.cells #[.slice p d.length c, .int .i64 room] 39)).alloc (.cells #[.slice none 0 0, .int .i64 0] 39)))
  rw [c0] at HFi
  obtain ⟨hi, hi1⟩ := fileErr_zero c0
  have hul := used_le2 hI hs
  have hds := (hI.node i).data
  have hne : (s.toList == []) = false := beq_false_of_ne (fun e => c2 ((toList_nil s).1 e))
  obtain ⟨hwx, hX2, hX3⟩ := wr_sum hX
  have hdl : d.length ≤ 4294967296 := Nat.le_trans (mass_ge d) (Nat.le_trans hs (by decide))
  obtain ⟨k, rfl, hk⟩ := has_nat hi
  obtain ⟨g, off, q, m, rfl, hSg, hrow⟩ := h.rowAt hk
  have HC := Lib.hid (fun (w1 : World) (hk1 : Keeps NoB w w1) => (⟨(hrow.keepN hk1).c0, (hrow.keepN hk1).c1, (hrow.keepN hk1).c2, (hrow.keepN hk1).c3, (hrow.keepN hk1).c4, (hrow.keepN hk1).lt⟩ : _ ∧ _ ∧ _ ∧ _ ∧ _ ∧ _))
  unfold endOf at hrm
  rw [Int.toNat_natCast] at hrm
  clear h hI hs hrow c0 hi hi1 hdl
  unfold refV at *
  by_cases hE : (nd d (k : Int)).data.size < X + s.size
  case pos =>
      obtain ⟨hE', hmx, hwa, hwb⟩ := wr_past hul hX hds hE
      rw [hmx, Int.natCast_add] at hrm
      have hr : room < (used d : Int) + ((X : Int) + (s.size : Int)) - ((nd d (k : Int)).data.size : Int) := hrm
      clear hul hds hrm hmx hE hX
      generalize (used d : Int) = us at *
      generalize (nd d (k : Int)).data = D at *
      generalize (nd d (k : Int)).ents.length = en at *
      have hwi : IntKind.i64.wrap (us + ((X : Int) + (s.size : Int))) = us + ((X : Int) + (s.size : Int)) := by rw [← hwa]; exact wrap_wrap64x _
      have hwj : IntKind.i64.wrap (us + ((X : Int) + (s.size : Int)) - (D.size : Int)) = us + ((X : Int) + (s.size : Int)) - (D.size : Int) := by rw [← hwb]; exact wrap_wrap64x _
      go_enter Try.func44, Try.ntmps44
      go_upto_region 15 with (go_at_call 72; refine (HFi.out _ B.keeps).mono ?_; rintro e w1 ⟨rfl, hk1⟩; (try clear A0); (try clear A1); (try clear C0); (try clear C1); (try clear zA); (try clear zC); (try clear l0); (try clear l1); (try clear R0); (try clear R1); (try clear R2); (try clear R3); (try clear R4); (try clear hgl); (try clear Q0); (try clear T4); replace B := B.on hk1; clear hk1; have A0 := B.A0; have A1 := B.A1; have C0 := B.C0; have C1 := B.C1; have zA := B.zA; have zC := B.zC; have l0 : w.heap.size < w1.heap.size := Nat.lt_of_lt_of_le (by simp) B.size; have l1 : w.heap.size + 1 < w1.heap.size := B.size; obtain ⟨R0, R1, R2, R3, R4, hgl⟩ := HC.out _ B.keeps)
      have NB := nbox (w1 := w1) (Keeps.refl NoB (w1.alloc (.cells #[.int .i64 (nd d (k : Int)).kind, .int .i64 (nd d (k : Int)).mode, .int .i64 (nd d (k : Int)).holds, .string D, .slice q en m] 50)))
      have Bs := B.size
      replace B := B.on ((Keeps.refl NoB w1).alloc (.cells #[.int .i64 (nd d (k : Int)).kind, .int .i64 (nd d (k : Int)).mode, .int .i64 (nd d (k : Int)).holds, .string D, .slice q en m] 50))
      (try clear A0); (try clear A1); (try clear C0); (try clear C1); (try clear zA); (try clear zC); (try clear l0); (try clear l1); (try clear R0); (try clear R1); (try clear R2); (try clear R3); (try clear R4); (try clear hgl); (try clear Q0); (try clear T4)
      generalize w1.alloc (.cells #[.int .i64 (nd d (k : Int)).kind, .int .i64 (nd d (k : Int)).mode, .int .i64 (nd d (k : Int)).holds, .string D, .slice q en m] 50) = w2 at *
      have A0 := B.A0
      have A1 := B.A1
      go_cut [65] from 57 to 65 (fun x wx => x = .bool true ∧ Keeps NoB w2 wx)
      case first =>
        have kr : Keeps NoB w2 w2 := Keeps.refl NoB w2
        have krd : Keeps NoB w2 w2.drew := kr.drew
        have Bd := B.on krd
        go_region_held3 (fun wz => wz.cell? ⟨w.heap.size, 0, none⟩ = some (.slice (some ⟨g, off, none⟩) d.length c) ∧ wz.cell? ⟨w.heap.size, 1, none⟩ = some (.int .i64 room) ∧ Keeps NoB w2 wz) (first | exact ⟨B.A0, B.A1, kr⟩ | exact ⟨Bd.A0, Bd.A1, krd⟩ | exact ⟨B6.A0, B6.A1, hk26⟩ | exact ⟨B6d.A0, B6d.A1, hk26d⟩)
          (first | (go_at_call 31; refine (HUs.out _ (B.keeps.trans (by assumption))).mono ?_; rintro e w6 ⟨rfl, hk6⟩; have hk26 : Keeps NoB w2 w6 := Keeps.trans (by assumption) hk6; have B6 := B.on hk26; have hk26d := hk26.drew; have B6d := B.on hk26d; have A06 := B6.A0; have A16 := B6.A1))
        all_goals (go_wp2_with fail; go_meet; exact ⟨by simp [hwi, hwj, hr], by first | exact hk26 | exact hk26.drew⟩)
      case rest =>
        obtain ⟨rfl, hk26⟩ := hcut
        replace B := B.on hk26
        replace NB := NB.on hk26
        clear hk26 HUs HFi HC
        (try clear A0); (try clear A1); (try clear C0); (try clear C1); (try clear zA); (try clear zC); (try clear l0); (try clear l1); (try clear R0); (try clear R1); (try clear R2); (try clear R3); (try clear R4); (try clear hgl); (try clear Q0); (try clear T4)
        have A0 := B.A0
        have A1 := B.A1
        have C0 := B.C0
        have C1 := B.C1
        have zA := B.zA
        have zC := B.zC
        go_wp2_with fail
        (try simp only [Exit.inBlock, Exit.then])
        refine bodyPost_ret (v := .tuple #[.agg #[.slice (some ⟨g, off, none⟩) d.length c, .int .i64 room], .int .i64 20]) ?_ rfl ?_
        · rw [results_cell_tmp rfl]
          go_simp
        · exact rto_store (Hh.out _ B.keeps) B.keeps _ _
  case neg =>
      obtain ⟨hE', hmx, hwa, hwb⟩ := wr_in (X := X) (L := s.size) hul hds hE
      rw [hmx] at hrm
      have hr : room < (used d : Int) := by rw [Int.add_sub_cancel] at hrm; exact hrm
      clear hul hds hrm hmx hE hX
      generalize (used d : Int) = us at *
      generalize (nd d (k : Int)).data = D at *
      generalize (nd d (k : Int)).ents.length = en at *
      have hwi : IntKind.i64.wrap (us + (D.size : Int)) = us + (D.size : Int) := by rw [← hwa]; exact wrap_wrap64x _
      have hwj : IntKind.i64.wrap (us) = us := by rw [← hwb]; exact wrap_wrap64x _
      go_enter Try.func44, Try.ntmps44
      go_upto_region 15 with (go_at_call 72; refine (HFi.out _ B.keeps).mono ?_; rintro e w1 ⟨rfl, hk1⟩; (try clear A0); (try clear A1); (try clear C0); (try clear C1); (try clear zA); (try clear zC); (try clear l0); (try clear l1); (try clear R0); (try clear R1); (try clear R2); (try clear R3); (try clear R4); (try clear hgl); (try clear Q0); (try clear T4); replace B := B.on hk1; clear hk1; have A0 := B.A0; have A1 := B.A1; have C0 := B.C0; have C1 := B.C1; have zA := B.zA; have zC := B.zC; have l0 : w.heap.size < w1.heap.size := Nat.lt_of_lt_of_le (by simp) B.size; have l1 : w.heap.size + 1 < w1.heap.size := B.size; obtain ⟨R0, R1, R2, R3, R4, hgl⟩ := HC.out _ B.keeps)
      have NB := nbox (w1 := w1) (Keeps.refl NoB (w1.alloc (.cells #[.int .i64 (nd d (k : Int)).kind, .int .i64 (nd d (k : Int)).mode, .int .i64 (nd d (k : Int)).holds, .string D, .slice q en m] 50)))
      have Bs := B.size
      replace B := B.on ((Keeps.refl NoB w1).alloc (.cells #[.int .i64 (nd d (k : Int)).kind, .int .i64 (nd d (k : Int)).mode, .int .i64 (nd d (k : Int)).holds, .string D, .slice q en m] 50))
      (try clear A0); (try clear A1); (try clear C0); (try clear C1); (try clear zA); (try clear zC); (try clear l0); (try clear l1); (try clear R0); (try clear R1); (try clear R2); (try clear R3); (try clear R4); (try clear hgl); (try clear Q0); (try clear T4)
      generalize w1.alloc (.cells #[.int .i64 (nd d (k : Int)).kind, .int .i64 (nd d (k : Int)).mode, .int .i64 (nd d (k : Int)).holds, .string D, .slice q en m] 50) = w2 at *
      have A0 := B.A0
      have A1 := B.A1
      go_cut [65] from 57 to 65 (fun x wx => x = .bool true ∧ Keeps NoB w2 wx)
      case first =>
        have kr : Keeps NoB w2 w2 := Keeps.refl NoB w2
        have krd : Keeps NoB w2 w2.drew := kr.drew
        have Bd := B.on krd
        go_region_held3 (fun wz => wz.cell? ⟨w.heap.size, 0, none⟩ = some (.slice (some ⟨g, off, none⟩) d.length c) ∧ wz.cell? ⟨w.heap.size, 1, none⟩ = some (.int .i64 room) ∧ Keeps NoB w2 wz) (first | exact ⟨B.A0, B.A1, kr⟩ | exact ⟨Bd.A0, Bd.A1, krd⟩ | exact ⟨B6.A0, B6.A1, hk26⟩ | exact ⟨B6d.A0, B6d.A1, hk26d⟩)
          (first | (go_at_call 31; refine (HUs.out _ (B.keeps.trans (by assumption))).mono ?_; rintro e w6 ⟨rfl, hk6⟩; have hk26 : Keeps NoB w2 w6 := Keeps.trans (by assumption) hk6; have B6 := B.on hk26; have hk26d := hk26.drew; have B6d := B.on hk26d; have A06 := B6.A0; have A16 := B6.A1))
        all_goals (go_wp2_with fail; go_meet; exact ⟨by simp [hwi, hwj, hr], by first | exact hk26 | exact hk26.drew⟩)
      case rest =>
        obtain ⟨rfl, hk26⟩ := hcut
        replace B := B.on hk26
        replace NB := NB.on hk26
        clear hk26 HUs HFi HC
        (try clear A0); (try clear A1); (try clear C0); (try clear C1); (try clear zA); (try clear zC); (try clear l0); (try clear l1); (try clear R0); (try clear R1); (try clear R2); (try clear R3); (try clear R4); (try clear hgl); (try clear Q0); (try clear T4)
        have A0 := B.A0
        have A1 := B.A1
        have C0 := B.C0
        have C1 := B.C1
        have zA := B.zA
        have zC := B.zC
        go_wp2_with fail
        (try simp only [Exit.inBlock, Exit.then])
        refine bodyPost_ret (v := .tuple #[.agg #[.slice (some ⟨g, off, none⟩) d.length c, .int .i64 room], .int .i64 20]) ?_ rfl ?_
        · rw [results_cell_tmp rfl]
          go_simp
        · exact rto_store (Hh.out _ B.keeps) B.keeps _ _

end

end Go.Proofs.Ytbcejodnjeklpaa

/-
  Contracts of the reference for layer 4: Write where it succeeds.
-/
namespace Go.Proofs.Ytbcejodnjeklpaa
open Go.RowKit
set_option maxRecDepth 100000
set_option maxHeartbeats 2000000

theorem NBox.set3 {w1 w2 : World} {v0 v1 v2 v3 v4 : Value} (h : NBox w1 w2 v0 v1 v2 v3 v4) (v : Value) : NBox w1 (w2.setCell ⟨w1.heap.size, 3, none⟩ v) v0 v1 v2 v v4 := by
  have h0 := cell_set (g := w1.heap.size) (k := 3) (u := v) (j := 0) h.N0
  have h1 := cell_set (g := w1.heap.size) (k := 3) (u := v) (j := 1) h.N1
  have h2 := cell_set (g := w1.heap.size) (k := 3) (u := v) (j := 2) h.N2
  have h3 := cell_set (g := w1.heap.size) (k := 3) (u := v) (j := 3) h.N3
  have h4 := cell_set (g := w1.heap.size) (k := 3) (u := v) (j := 4) h.N4
  rw [if_neg (by decide)] at h0 h1 h2 h4
  rw [if_pos rfl] at h3
  exact ⟨h0, h1, h2, h3, h4, fun j => (frozen_set _ _ _ _).trans (h.zN j)⟩

/-- The method's variables, with more bytes. -/
def FarAt (w w1 wx : World) (p : Option Addr) (n c : Nat) (room : Int) (v0 v1 v2 v3 v4 : Value) : Prop := RBox w wx p n c room ∧ NBox w1 wx v0 v1 v2 v3 v4
theorem far_at {w w1 wx : World} {p : Option Addr} {n c : Nat} {room : Int} {v0 v1 v2 v3 v4 : Value} (hs : w.heap.size + 2 ≤ w1.heap.size) (B : RBox w wx p n c room) (N : NBox w1 wx v0 v1 v2 v3 v4) (v : Value) :
    FarAt w w1 (wx.setCell ⟨w1.heap.size, 3, none⟩ v) p n c room v0 v1 v2 v v4 := ⟨B.set hs 3 v, N.set3 v⟩

theorem wr_cases {n X L : Nat} : n < X ∨ (X ≤ n ∧ n < X + L) ∨ X + L < n ∨ X + L = n := by omega
theorem wr_ne {n X L : Nat} (h : X + L ≤ n) : ¬ n < X + L := by omega
theorem wr_edge {n X L : Nat} (h : X + L = n) : X ≤ n ∧ n ≤ X + L := by omega
theorem wr_nlt {n X L : Nat} (h : X + L = n) : ¬ ((X : Int) + (L : Int) < (n : Int)) := by omega
theorem wr_nlt2 {n X : Nat} (h : X ≤ n) : ¬ ((n : Int) < (X : Int)) := by omega
theorem wr_nr {n X L : Nat} (h : ((n : Int) < (X : Int) + (L : Int))) : ¬ ((X : Int) + (L : Int) < (n : Int)) := by omega
theorem wr_sub {n X L : Nat} (hX : X + L ≤ 4194304) (h : n < X) : wrap64 ((X : Int) - (n : Int)) = ((X - n : Nat) : Int) := by rw [IntWalk.wrap64_in _ (by omega)]; omega
theorem wr_subk {n X L : Nat} (hX : X + L ≤ 4194304) (h : n < X) : IntKind.i64.wrap ((X : Int) - (n : Int)) = ((X - n : Nat) : Int) := by rw [IntKind.wrap_i64]; omega
theorem wr_nz {n X L : Nat} (hX : X + L ≤ 4194304) (h : n < X) : (9223372036854775807 < n + (noughts (X - n)).size) = False := by rw [noughts_size]; simp; omega
theorem wr_nle {n X L : Nat} (hX : X + L ≤ 4194304) : X - n ≤ 4294967296 := by omega
theorem wr_gs {D : ByteArray} {X : Nat} (h : D.size < X) : (D ++ noughts (X - D.size)).size = X := by rw [ByteArray.size_append, noughts_size]; omega
theorem wr_nf {n X L : Nat} (h : ¬ ((n : Int) < (X : Int) + (L : Int))) : ¬ ((n : Int) < (X : Int)) := by omega

section
variable {S : Nat → Prop} {w : World} {p : Option Addr} {c : Nat} {d : Nds} {room : Int}

theorem write_put (h : RefAt S w p c d) (hS : ∀ g, w.heap.size ≤ g → S g) {k : Nat} (hk : k < d.length) {w2 : World} (hk2 : Keeps NoB w w2) (hsz : w.heap.size + 2 ≤ w2.heap.size) (hl : d.length ≤ 4294967296) {g off m X : Nat} {q : Option Addr} {s : ByteArray} (hrow : RowAt S w g off k (nd d (k : Int)) q m)
    (D' : ByteArray) (hD : D' = over ((nd d (k : Int)).data ++ noughts (max (nd d (k : Int)).data.size (X + s.size) - (nd d (k : Int)).data.size)) X s) :
    Calls Try.prog 49 #[.agg #[.slice p d.length c, .int .i64 room], .int .i64 k, .agg #[.int .i64 (nd d (k : Int)).kind, .int .i64 (nd d (k : Int)).mode, .int .i64 (nd d (k : Int)).holds, .string D', .slice q (nd d (k : Int)).ents.length m]] w2 fun e w' =>
      ∃ p' c', e = .returned (.agg #[.slice p' d.length c', .int .i64 room]) ∧ RefAt (But2 S w) w' p' c' (upd d (k : Int) (writeNd (nd d (k : Int)) X s)) ∧ Keeps NoB w2 w' := by
  subst hD
  refine (r4put_any (S := But2 S w) (room := room) (h.but2 hk2) (but2_new hS hsz) k hk hl (writeNd (nd d (k : Int)) X s) q m (hrow.sl.keepS hk2 (fun _ _ _ h => h) (fun g hg hl => ⟨hg, by omega, by omega⟩))).mono ?_
  rintro e w' ⟨v', rfl, ⟨p', c', rfl, href⟩, hk'⟩
  exact ⟨p', c', by unfold refV; rw [upd_length], href, hk'⟩

theorem r4write_ok (h : RefAt S w p c d) (hS : ∀ g, w.heap.size ≤ g → S g) (hI : DInv d) (hs : smallD d) (i : Int) (X : Nat) (s : ByteArray) (c0 : fileErr d i = 0) (c2 : s.size ≠ 0) (hX : X + s.size ≤ 4194304) (hrm : ¬ room < used d + endOf d i X s - (nd d i).data.size) :
    Calls Try.prog 44 #[refV p c d room, .int .i64 i, .int .i64 X, .string s] w (RTo S w (upd d i (writeNd (nd d i) X s)) room 0) := by
  have HFi := Lib.hid (fun (w1 : World) (hk : Keeps NoB w w1) => r4file_any (room := room) (h.keepN hk) hI i)
  have HUs := Lib.hid (fun (w1 : World) (hk : Keeps NoB w w1) => r4used_any (room := room) (h.keepN hk) hI.zero (Nat.le_of_lt hI.two) hI hs)
  have Hh := Lib.hid (fun (w1 : World) (hk : Keeps NoB w w1) => h.but2 hk)
  have B := rbox (w := w) (Keeps.refl NoB ((w.alloc (.cells #[.slice p d.length c, .int .i64 room] 39)).alloc (.cells #[.slice none 0 0, .int .i64 0] 39)))
  rw [c0] at HFi
  obtain ⟨hi, hi1⟩ := fileErr_zero c0
  have hul := used_le2 hI hs
  have hds := (hI.node i).data
  have hne : (s.toList == []) = false := beq_false_of_ne (fun e => c2 ((toList_nil s).1 e))
  obtain ⟨hwx, hX2, hX3⟩ := wr_sum hX
  have hdl : d.length ≤ 4294967296 := Nat.le_trans (mass_ge d) (Nat.le_trans hs (by decide))
  obtain ⟨k, rfl, hk⟩ := has_nat hi
  obtain ⟨g, off, q, m, rfl, hSg, hrow⟩ := h.rowAt hk
  have HC := Lib.hid (fun (w1 : World) (hk1 : Keeps NoB w w1) => (⟨(hrow.keepN hk1).c0, (hrow.keepN hk1).c1, (hrow.keepN hk1).c2, (hrow.keepN hk1).c3, (hrow.keepN hk1).c4, (hrow.keepN hk1).lt⟩ : _ ∧ _ ∧ _ ∧ _ ∧ _ ∧ _))
  unfold endOf at hrm
  rw [Int.toNat_natCast] at hrm
  have HP := Lib.hid (fun (w2 : World) (hk2 : Keeps NoB w w2) (hsz : w.heap.size + 2 ≤ w2.heap.size) (D' : ByteArray) (hD : D' = over ((nd d (k : Int)).data ++ noughts (max (nd d (k : Int)).data.size (X + s.size) - (nd d (k : Int)).data.size)) X s) =>
    write_put (room := room) h hS hk hk2 hsz hdl hrow D' hD)
  have hl2 : (upd d (k : Int) (writeNd (nd d (k : Int)) X s)).length = d.length := upd_length _ _ _
  clear h hI hs hrow c0 hi hi1 Hh hdl
  unfold refV at *
  have HL2 := Lib.hid hl2
  clear hl2
  generalize upd d (k : Int) (writeNd (nd d (k : Int)) X s) = dd at *
  have HX := Lib.hid hX
  have hSs : (s.size : Int) ≤ 4194304 := Int.ofNat_le.2 (Nat.le_trans (Nat.le_add_left _ _) hX)
  have hDs : ((nd d (k : Int)).data.size : Int) ≤ 4194304 := Int.ofNat_le.2 hds
  have hcase : (nd d (k : Int)).data.size < X ∨ (X ≤ (nd d (k : Int)).data.size ∧ (nd d (k : Int)).data.size < X + s.size) ∨ X + s.size < (nd d (k : Int)).data.size ∨ X + s.size = (nd d (k : Int)).data.size := wr_cases
  rcases hcase with hF | ⟨hF, hE⟩ | hE2 | hE2
  case inr.inr.inl =>
      have HW := Lib.hid hE2
      have hE := wr_ne (Nat.le_of_lt hE2)
      replace hE2 : (X : Int) + (s.size : Int) < ((nd d (k : Int)).data.size : Int) := by rw [← Int.natCast_add]; exact Int.ofNat_lt.2 hE2
      obtain ⟨hE', hmx, hwa, hwb⟩ := wr_in (X := X) (L := s.size) hul hds hE
      rw [hmx] at hrm
      have hr : ¬ room < (used d : Int) := by rw [Int.add_sub_cancel] at hrm; exact hrm
      clear hul hds hrm hmx hE hX
      have hF := wr_nf hE'
      generalize (used d : Int) = us at *
      generalize (nd d (k : Int)).data = D at *
      generalize (nd d (k : Int)).ents.length = en at *
      have hwi : IntKind.i64.wrap (us + (D.size : Int)) = us + (D.size : Int) := by rw [← hwa]; exact wrap_wrap64x _
      have hwj : IntKind.i64.wrap (us) = us := by rw [← hwb]; exact wrap_wrap64x _
      go_enter Try.func44, Try.ntmps44
      go_upto_region 15 with (go_at_call 72; refine (HFi.out _ B.keeps).mono ?_; rintro e w1 ⟨rfl, hk1⟩; (try clear A0); (try clear A1); (try clear C0); (try clear C1); (try clear zA); (try clear zC); (try clear l0); (try clear l1); (try clear R0); (try clear R1); (try clear R2); (try clear R3); (try clear R4); (try clear hgl); (try clear Q0); (try clear T4); replace B := B.on hk1; clear hk1; have A0 := B.A0; have A1 := B.A1; have C0 := B.C0; have C1 := B.C1; have zA := B.zA; have zC := B.zC; have l0 : w.heap.size < w1.heap.size := Nat.lt_of_lt_of_le (by simp) B.size; have l1 : w.heap.size + 1 < w1.heap.size := B.size; obtain ⟨R0, R1, R2, R3, R4, hgl⟩ := HC.out _ B.keeps)
      have NB := nbox (w1 := w1) (Keeps.refl NoB (w1.alloc (.cells #[.int .i64 (nd d (k : Int)).kind, .int .i64 (nd d (k : Int)).mode, .int .i64 (nd d (k : Int)).holds, .string D, .slice q en m] 50)))
      have Bs := B.size
      replace B := B.on ((Keeps.refl NoB w1).alloc (.cells #[.int .i64 (nd d (k : Int)).kind, .int .i64 (nd d (k : Int)).mode, .int .i64 (nd d (k : Int)).holds, .string D, .slice q en m] 50))
      (try clear A0); (try clear A1); (try clear C0); (try clear C1); (try clear zA); (try clear zC); (try clear l0); (try clear l1); (try clear R0); (try clear R1); (try clear R2); (try clear R3); (try clear R4); (try clear hgl); (try clear Q0); (try clear T4)
      generalize w1.alloc (.cells #[.int .i64 (nd d (k : Int)).kind, .int .i64 (nd d (k : Int)).mode, .int .i64 (nd d (k : Int)).holds, .string D, .slice q en m] 50) = w2 at *
      have A0 := B.A0
      have A1 := B.A1
      go_cut [65] from 57 to 65 (fun x wx => x = .bool false ∧ Keeps NoB w2 wx)
      case first =>
        have kr : Keeps NoB w2 w2 := Keeps.refl NoB w2
        have krd : Keeps NoB w2 w2.drew := kr.drew
        have Bd := B.on krd
        go_region_held3 (fun wz => wz.cell? ⟨w.heap.size, 0, none⟩ = some (.slice (some ⟨g, off, none⟩) d.length c) ∧ wz.cell? ⟨w.heap.size, 1, none⟩ = some (.int .i64 room) ∧ Keeps NoB w2 wz) (first | exact ⟨B.A0, B.A1, kr⟩ | exact ⟨Bd.A0, Bd.A1, krd⟩ | exact ⟨B6.A0, B6.A1, hk26⟩ | exact ⟨B6d.A0, B6d.A1, hk26d⟩)
          (first | (go_at_call 31; refine (HUs.out _ (B.keeps.trans (by assumption))).mono ?_; rintro e w6 ⟨rfl, hk6⟩; have hk26 : Keeps NoB w2 w6 := Keeps.trans (by assumption) hk6; have B6 := B.on hk26; have hk26d := hk26.drew; have B6d := B.on hk26d; have A06 := B6.A0; have A16 := B6.A1))
        all_goals (go_wp2_with fail; go_meet; exact ⟨by simp [hwi, hwj, hr], by first | exact hk26 | exact hk26.drew⟩)
      case rest =>
        obtain ⟨rfl, hk26⟩ := hcut
        replace B := B.on hk26
        replace NB := NB.on hk26
        clear hk26 HUs HFi HC
        (try clear A0); (try clear A1); (try clear C0); (try clear C1); (try clear zA); (try clear zC); (try clear l0); (try clear l1); (try clear R0); (try clear R1); (try clear R2); (try clear R3); (try clear R4); (try clear hgl); (try clear Q0); (try clear T4)
        have A0 := B.A0
        have A1 := B.A1
        have C0 := B.C0
        have C1 := B.C1
        have zA := B.zA
        have zC := B.zC
        have N0 := NB.N0
        have N1 := NB.N1
        have N2 := NB.N2
        have N3 := NB.N3
        have N4 := NB.N4
        have zN := NB.zN
        have nA : ¬ w.heap.size = w1.heap.size := by omega
        have nA' : ¬ w1.heap.size = w.heap.size := by omega
        go_wp2_with (first | (go_at_call 49; go_loud (refine (HP.out _ (B.set Bs 3 _).keeps (B.set Bs 3 _).size _ ((write_within HW.out))).mono ?_); rintro e w8 ⟨p8, c8, rfl, href8, hk8⟩; have B8 := (B.set Bs 3 _).on hk8; (try clear A0); (try clear A1); (try clear C0); (try clear C1); (try clear zA); (try clear zC); (try clear l0); (try clear l1); (try clear R0); (try clear R1); (try clear R2); (try clear R3); (try clear R4); (try clear hgl); (try clear Q0); (try clear T4); (try clear N0 N1 N2 N3 N4 zN); have C0 := B8.C0; have C1 := B8.C1; have zC := B8.zC))
        (try simp only [Exit.inBlock, Exit.then])
        refine bodyPost_ret (v := .tuple #[.agg #[.slice p8 d.length c8, .int .i64 room], .int .i64 0]) ?_ rfl ?_
        · rw [results_cell_tmp rfl]
          go_simp
        · have hz := rto_store (room := room) (err := 0) href8 B8.keeps (.slice p8 d.length c8) (.int .i64 room)
          unfold refV at hz
          rw [HL2.out] at hz
          exact hz
  case inr.inr.inr =>
      have HW := Lib.hid (wr_edge hE2)
      have hE := wr_ne (Nat.le_of_eq hE2)
      replace hE2 := wr_nlt hE2
      obtain ⟨hE', hmx, hwa, hwb⟩ := wr_in (X := X) (L := s.size) hul hds hE
      rw [hmx] at hrm
      have hr : ¬ room < (used d : Int) := by rw [Int.add_sub_cancel] at hrm; exact hrm
      clear hul hds hrm hmx hE hX
      have hF := wr_nf hE'
      generalize (used d : Int) = us at *
      generalize (nd d (k : Int)).data = D at *
      generalize (nd d (k : Int)).ents.length = en at *
      have hwi : IntKind.i64.wrap (us + (D.size : Int)) = us + (D.size : Int) := by rw [← hwa]; exact wrap_wrap64x _
      have hwj : IntKind.i64.wrap (us) = us := by rw [← hwb]; exact wrap_wrap64x _
      go_enter Try.func44, Try.ntmps44
      go_upto_region 15 with (go_at_call 72; refine (HFi.out _ B.keeps).mono ?_; rintro e w1 ⟨rfl, hk1⟩; (try clear A0); (try clear A1); (try clear C0); (try clear C1); (try clear zA); (try clear zC); (try clear l0); (try clear l1); (try clear R0); (try clear R1); (try clear R2); (try clear R3); (try clear R4); (try clear hgl); (try clear Q0); (try clear T4); replace B := B.on hk1; clear hk1; have A0 := B.A0; have A1 := B.A1; have C0 := B.C0; have C1 := B.C1; have zA := B.zA; have zC := B.zC; have l0 : w.heap.size < w1.heap.size := Nat.lt_of_lt_of_le (by simp) B.size; have l1 : w.heap.size + 1 < w1.heap.size := B.size; obtain ⟨R0, R1, R2, R3, R4, hgl⟩ := HC.out _ B.keeps)
      have NB := nbox (w1 := w1) (Keeps.refl NoB (w1.alloc (.cells #[.int .i64 (nd d (k : Int)).kind, .int .i64 (nd d (k : Int)).mode, .int .i64 (nd d (k : Int)).holds, .string D, .slice q en m] 50)))
      have Bs := B.size
      replace B := B.on ((Keeps.refl NoB w1).alloc (.cells #[.int .i64 (nd d (k : Int)).kind, .int .i64 (nd d (k : Int)).mode, .int .i64 (nd d (k : Int)).holds, .string D, .slice q en m] 50))
      (try clear A0); (try clear A1); (try clear C0); (try clear C1); (try clear zA); (try clear zC); (try clear l0); (try clear l1); (try clear R0); (try clear R1); (try clear R2); (try clear R3); (try clear R4); (try clear hgl); (try clear Q0); (try clear T4)
      generalize w1.alloc (.cells #[.int .i64 (nd d (k : Int)).kind, .int .i64 (nd d (k : Int)).mode, .int .i64 (nd d (k : Int)).holds, .string D, .slice q en m] 50) = w2 at *
      have A0 := B.A0
      have A1 := B.A1
      go_cut [65] from 57 to 65 (fun x wx => x = .bool false ∧ Keeps NoB w2 wx)
      case first =>
        have kr : Keeps NoB w2 w2 := Keeps.refl NoB w2
        have krd : Keeps NoB w2 w2.drew := kr.drew
        have Bd := B.on krd
        go_region_held3 (fun wz => wz.cell? ⟨w.heap.size, 0, none⟩ = some (.slice (some ⟨g, off, none⟩) d.length c) ∧ wz.cell? ⟨w.heap.size, 1, none⟩ = some (.int .i64 room) ∧ Keeps NoB w2 wz) (first | exact ⟨B.A0, B.A1, kr⟩ | exact ⟨Bd.A0, Bd.A1, krd⟩ | exact ⟨B6.A0, B6.A1, hk26⟩ | exact ⟨B6d.A0, B6d.A1, hk26d⟩)
          (first | (go_at_call 31; refine (HUs.out _ (B.keeps.trans (by assumption))).mono ?_; rintro e w6 ⟨rfl, hk6⟩; have hk26 : Keeps NoB w2 w6 := Keeps.trans (by assumption) hk6; have B6 := B.on hk26; have hk26d := hk26.drew; have B6d := B.on hk26d; have A06 := B6.A0; have A16 := B6.A1))
        all_goals (go_wp2_with fail; go_meet; exact ⟨by simp [hwi, hwj, hr], by first | exact hk26 | exact hk26.drew⟩)
      case rest =>
        obtain ⟨rfl, hk26⟩ := hcut
        replace B := B.on hk26
        replace NB := NB.on hk26
        clear hk26 HUs HFi HC
        (try clear A0); (try clear A1); (try clear C0); (try clear C1); (try clear zA); (try clear zC); (try clear l0); (try clear l1); (try clear R0); (try clear R1); (try clear R2); (try clear R3); (try clear R4); (try clear hgl); (try clear Q0); (try clear T4)
        have A0 := B.A0
        have A1 := B.A1
        have C0 := B.C0
        have C1 := B.C1
        have zA := B.zA
        have zC := B.zC
        have N0 := NB.N0
        have N1 := NB.N1
        have N2 := NB.N2
        have N3 := NB.N3
        have N4 := NB.N4
        have zN := NB.zN
        have nA : ¬ w.heap.size = w1.heap.size := by omega
        have nA' : ¬ w1.heap.size = w.heap.size := by omega
        go_wp2_with (first | (go_at_call 49; go_loud (refine (HP.out _ (B.set Bs 3 _).keeps (B.set Bs 3 _).size _ ((write_past' HW.out.1 HW.out.2))).mono ?_); rintro e w8 ⟨p8, c8, rfl, href8, hk8⟩; have B8 := (B.set Bs 3 _).on hk8; (try clear A0); (try clear A1); (try clear C0); (try clear C1); (try clear zA); (try clear zC); (try clear l0); (try clear l1); (try clear R0); (try clear R1); (try clear R2); (try clear R3); (try clear R4); (try clear hgl); (try clear Q0); (try clear T4); (try clear N0 N1 N2 N3 N4 zN); have C0 := B8.C0; have C1 := B8.C1; have zC := B8.zC))
        (try simp only [Exit.inBlock, Exit.then])
        refine bodyPost_ret (v := .tuple #[.agg #[.slice p8 d.length c8, .int .i64 room], .int .i64 0]) ?_ rfl ?_
        · rw [results_cell_tmp rfl]
          go_simp
        · have hz := rto_store (room := room) (err := 0) href8 B8.keeps (.slice p8 d.length c8) (.int .i64 room)
          unfold refV at hz
          rw [HL2.out] at hz
          exact hz
  case inl =>
      have hE := Nat.lt_of_lt_of_le hF (Nat.le_add_right X s.size)
      obtain ⟨hE', hmx, hwa, hwb⟩ := wr_past hul hX hds hE
      rw [hmx, Int.natCast_add] at hrm
      have hr : ¬ room < (used d : Int) + ((X : Int) + (s.size : Int)) - ((nd d (k : Int)).data.size : Int) := hrm
      clear hul hds hrm hmx hE hX
      have HF := Lib.hid hF
      have hR := wr_nr hE'
      have hsub := wr_subk HX.out hF
      have hgs := wr_gs hF
      have hnz := wr_nz HX.out hF
      have hno := fun wx => r4noughts_any wx (X - (nd d (k : Int)).data.size) (wr_nle HX.out)
      rw [← hsub] at hno
      clear hsub
      have HNO := Lib.hid (fun (wx : World) => (hno wx).mono (R' := fun e w' => e = .returned (.string (noughts (X - (nd d (k : Int)).data.size))) ∧ w' = wx) (fun e w' h => ⟨h.1, h.2.symm⟩))
      clear hno
      replace hF := Int.ofNat_lt.2 hF
      generalize (used d : Int) = us at *
      generalize (nd d (k : Int)).data = D at *
      generalize (nd d (k : Int)).ents.length = en at *
      have hwi : IntKind.i64.wrap (us + ((X : Int) + (s.size : Int))) = us + ((X : Int) + (s.size : Int)) := by rw [← hwa]; exact wrap_wrap64x _
      have hwj : IntKind.i64.wrap (us + ((X : Int) + (s.size : Int)) - (D.size : Int)) = us + ((X : Int) + (s.size : Int)) - (D.size : Int) := by rw [← hwb]; exact wrap_wrap64x _
      go_enter Try.func44, Try.ntmps44
      go_upto_region 15 with (go_at_call 72; refine (HFi.out _ B.keeps).mono ?_; rintro e w1 ⟨rfl, hk1⟩; (try clear A0); (try clear A1); (try clear C0); (try clear C1); (try clear zA); (try clear zC); (try clear l0); (try clear l1); (try clear R0); (try clear R1); (try clear R2); (try clear R3); (try clear R4); (try clear hgl); (try clear Q0); (try clear T4); replace B := B.on hk1; clear hk1; have A0 := B.A0; have A1 := B.A1; have C0 := B.C0; have C1 := B.C1; have zA := B.zA; have zC := B.zC; have l0 : w.heap.size < w1.heap.size := Nat.lt_of_lt_of_le (by simp) B.size; have l1 : w.heap.size + 1 < w1.heap.size := B.size; obtain ⟨R0, R1, R2, R3, R4, hgl⟩ := HC.out _ B.keeps)
      have NB := nbox (w1 := w1) (Keeps.refl NoB (w1.alloc (.cells #[.int .i64 (nd d (k : Int)).kind, .int .i64 (nd d (k : Int)).mode, .int .i64 (nd d (k : Int)).holds, .string D, .slice q en m] 50)))
      have Bs := B.size
      replace B := B.on ((Keeps.refl NoB w1).alloc (.cells #[.int .i64 (nd d (k : Int)).kind, .int .i64 (nd d (k : Int)).mode, .int .i64 (nd d (k : Int)).holds, .string D, .slice q en m] 50))
      (try clear A0); (try clear A1); (try clear C0); (try clear C1); (try clear zA); (try clear zC); (try clear l0); (try clear l1); (try clear R0); (try clear R1); (try clear R2); (try clear R3); (try clear R4); (try clear hgl); (try clear Q0); (try clear T4)
      generalize w1.alloc (.cells #[.int .i64 (nd d (k : Int)).kind, .int .i64 (nd d (k : Int)).mode, .int .i64 (nd d (k : Int)).holds, .string D, .slice q en m] 50) = w2 at *
      have A0 := B.A0
      have A1 := B.A1
      go_cut [65] from 57 to 65 (fun x wx => x = .bool false ∧ Keeps NoB w2 wx)
      case first =>
        have kr : Keeps NoB w2 w2 := Keeps.refl NoB w2
        have krd : Keeps NoB w2 w2.drew := kr.drew
        have Bd := B.on krd
        go_region_held3 (fun wz => wz.cell? ⟨w.heap.size, 0, none⟩ = some (.slice (some ⟨g, off, none⟩) d.length c) ∧ wz.cell? ⟨w.heap.size, 1, none⟩ = some (.int .i64 room) ∧ Keeps NoB w2 wz) (first | exact ⟨B.A0, B.A1, kr⟩ | exact ⟨Bd.A0, Bd.A1, krd⟩ | exact ⟨B6.A0, B6.A1, hk26⟩ | exact ⟨B6d.A0, B6d.A1, hk26d⟩)
          (first | (go_at_call 31; refine (HUs.out _ (B.keeps.trans (by assumption))).mono ?_; rintro e w6 ⟨rfl, hk6⟩; have hk26 : Keeps NoB w2 w6 := Keeps.trans (by assumption) hk6; have B6 := B.on hk26; have hk26d := hk26.drew; have B6d := B.on hk26d; have A06 := B6.A0; have A16 := B6.A1))
        all_goals (go_wp2_with fail; go_meet; exact ⟨by simp [hwi, hwj, hr], by first | exact hk26 | exact hk26.drew⟩)
      case rest =>
        obtain ⟨rfl, hk26⟩ := hcut
        replace B := B.on hk26
        replace NB := NB.on hk26
        clear hk26 HUs HFi HC
        (try clear A0); (try clear A1); (try clear C0); (try clear C1); (try clear zA); (try clear zC); (try clear l0); (try clear l1); (try clear R0); (try clear R1); (try clear R2); (try clear R3); (try clear R4); (try clear hgl); (try clear Q0); (try clear T4)
        have A0 := B.A0
        have A1 := B.A1
        have C0 := B.C0
        have C1 := B.C1
        have zA := B.zA
        have zC := B.zC
        have N0 := NB.N0
        have N1 := NB.N1
        have N2 := NB.N2
        have N3 := NB.N3
        have N4 := NB.N4
        have zN := NB.zN
        have nA : ¬ w.heap.size = w1.heap.size := by omega
        have nA' : ¬ w1.heap.size = w.heap.size := by omega
        go_upto_region 18 with (fail)
        go_still_tail 8, (by kernel_rfl)
        still_call (HNO.out _)
        repeat still_step
        refine wpStill_nil ?_
        change wpList _ _ _ _ _ wc.drew
        replace B := B.on (Keeps.refl NoB wc).drew
        replace NB := NB.on (Keeps.refl NoB wc).drew
        clear N0 N1 N2 N3 N4 zN
        (try clear A0); (try clear A1); (try clear C0); (try clear C1); (try clear zA); (try clear zC); (try clear l0); (try clear l1); (try clear R0); (try clear R1); (try clear R2); (try clear R3); (try clear R4); (try clear hgl); (try clear Q0); (try clear T4)
        clear HNO
        generalize wc.drew = wd at *
        have A0 := B.A0
        have A1 := B.A1
        have C0 := B.C0
        have C1 := B.C1
        have zA := B.zA
        have zC := B.zC
        have N0 := NB.N0
        have N1 := NB.N1
        have N2 := NB.N2
        have N3 := NB.N3
        have N4 := NB.N4
        have zN := NB.zN
        go_wp2_with (first | (go_at_call 49; go_loud (refine (HP.out _ ((B.set Bs 3 _).set Bs 3 _).keeps ((B.set Bs 3 _).set Bs 3 _).size _ ((write_far' HF.out))).mono ?_); rintro e w8 ⟨p8, c8, rfl, href8, hk8⟩; have B8 := ((B.set Bs 3 _).set Bs 3 _).on hk8; (try clear A0); (try clear A1); (try clear C0); (try clear C1); (try clear zA); (try clear zC); (try clear l0); (try clear l1); (try clear R0); (try clear R1); (try clear R2); (try clear R3); (try clear R4); (try clear hgl); (try clear Q0); (try clear T4); (try clear N0 N1 N2 N3 N4 zN); have C0 := B8.C0; have C1 := B8.C1; have zC := B8.zC))
        (try simp only [Exit.inBlock, Exit.then])
        refine bodyPost_ret (v := .tuple #[.agg #[.slice p8 d.length c8, .int .i64 room], .int .i64 0]) ?_ rfl ?_
        · rw [results_cell_tmp rfl]
          go_simp
        · have hz := rto_store (room := room) (err := 0) href8 B8.keeps (.slice p8 d.length c8) (.int .i64 room)
          unfold refV at hz
          rw [HL2.out] at hz
          exact hz
  case inr.inl =>
      have HW := Lib.hid (⟨hF, Nat.le_of_lt hE⟩ : X ≤ (nd d (k : Int)).data.size ∧ (nd d (k : Int)).data.size ≤ X + s.size)
      obtain ⟨hE', hmx, hwa, hwb⟩ := wr_past hul hX hds hE
      rw [hmx, Int.natCast_add] at hrm
      have hr : ¬ room < (used d : Int) + ((X : Int) + (s.size : Int)) - ((nd d (k : Int)).data.size : Int) := hrm
      clear hul hds hrm hmx hE hX
      have hR := wr_nr hE'
      replace hF := wr_nlt2 hF
      generalize (used d : Int) = us at *
      generalize (nd d (k : Int)).data = D at *
      generalize (nd d (k : Int)).ents.length = en at *
      have hwi : IntKind.i64.wrap (us + ((X : Int) + (s.size : Int))) = us + ((X : Int) + (s.size : Int)) := by rw [← hwa]; exact wrap_wrap64x _
      have hwj : IntKind.i64.wrap (us + ((X : Int) + (s.size : Int)) - (D.size : Int)) = us + ((X : Int) + (s.size : Int)) - (D.size : Int) := by rw [← hwb]; exact wrap_wrap64x _
      go_enter Try.func44, Try.ntmps44
      go_upto_region 15 with (go_at_call 72; refine (HFi.out _ B.keeps).mono ?_; rintro e w1 ⟨rfl, hk1⟩; (try clear A0); (try clear A1); (try clear C0); (try clear C1); (try clear zA); (try clear zC); (try clear l0); (try clear l1); (try clear R0); (try clear R1); (try clear R2); (try clear R3); (try clear R4); (try clear hgl); (try clear Q0); (try clear T4); replace B := B.on hk1; clear hk1; have A0 := B.A0; have A1 := B.A1; have C0 := B.C0; have C1 := B.C1; have zA := B.zA; have zC := B.zC; have l0 : w.heap.size < w1.heap.size := Nat.lt_of_lt_of_le (by simp) B.size; have l1 : w.heap.size + 1 < w1.heap.size := B.size; obtain ⟨R0, R1, R2, R3, R4, hgl⟩ := HC.out _ B.keeps)
      have NB := nbox (w1 := w1) (Keeps.refl NoB (w1.alloc (.cells #[.int .i64 (nd d (k : Int)).kind, .int .i64 (nd d (k : Int)).mode, .int .i64 (nd d (k : Int)).holds, .string D, .slice q en m] 50)))
      have Bs := B.size
      replace B := B.on ((Keeps.refl NoB w1).alloc (.cells #[.int .i64 (nd d (k : Int)).kind, .int .i64 (nd d (k : Int)).mode, .int .i64 (nd d (k : Int)).holds, .string D, .slice q en m] 50))
      (try clear A0); (try clear A1); (try clear C0); (try clear C1); (try clear zA); (try clear zC); (try clear l0); (try clear l1); (try clear R0); (try clear R1); (try clear R2); (try clear R3); (try clear R4); (try clear hgl); (try clear Q0); (try clear T4)
      generalize w1.alloc (.cells #[.int .i64 (nd d (k : Int)).kind, .int .i64 (nd d (k : Int)).mode, .int .i64 (nd d (k : Int)).holds, .string D, .slice q en m] 50) = w2 at *
      have A0 := B.A0
      have A1 := B.A1
      go_cut [65] from 57 to 65 (fun x wx => x = .bool false ∧ Keeps NoB w2 wx)
      case first =>
        have kr : Keeps NoB w2 w2 := Keeps.refl NoB w2
        have krd : Keeps NoB w2 w2.drew := kr.drew
        have Bd := B.on krd
        go_region_held3 (fun wz => wz.cell? ⟨w.heap.size, 0, none⟩ = some (.slice (some ⟨g, off, none⟩) d.length c) ∧ wz.cell? ⟨w.heap.size, 1, none⟩ = some (.int .i64 room) ∧ Keeps NoB w2 wz) (first | exact ⟨B.A0, B.A1, kr⟩ | exact ⟨Bd.A0, Bd.A1, krd⟩ | exact ⟨B6.A0, B6.A1, hk26⟩ | exact ⟨B6d.A0, B6d.A1, hk26d⟩)
          (first | (go_at_call 31; refine (HUs.out _ (B.keeps.trans (by assumption))).mono ?_; rintro e w6 ⟨rfl, hk6⟩; have hk26 : Keeps NoB w2 w6 := Keeps.trans (by assumption) hk6; have B6 := B.on hk26; have hk26d := hk26.drew; have B6d := B.on hk26d; have A06 := B6.A0; have A16 := B6.A1))
        all_goals (go_wp2_with fail; go_meet; exact ⟨by simp [hwi, hwj, hr], by first | exact hk26 | exact hk26.drew⟩)
      case rest =>
        obtain ⟨rfl, hk26⟩ := hcut
        replace B := B.on hk26
        replace NB := NB.on hk26
        clear hk26 HUs HFi HC
        (try clear A0); (try clear A1); (try clear C0); (try clear C1); (try clear zA); (try clear zC); (try clear l0); (try clear l1); (try clear R0); (try clear R1); (try clear R2); (try clear R3); (try clear R4); (try clear hgl); (try clear Q0); (try clear T4)
        have A0 := B.A0
        have A1 := B.A1
        have C0 := B.C0
        have C1 := B.C1
        have zA := B.zA
        have zC := B.zC
        have N0 := NB.N0
        have N1 := NB.N1
        have N2 := NB.N2
        have N3 := NB.N3
        have N4 := NB.N4
        have zN := NB.zN
        have nA : ¬ w.heap.size = w1.heap.size := by omega
        have nA' : ¬ w1.heap.size = w.heap.size := by omega
        go_wp2_with (first | (go_at_call 49; go_loud (refine (HP.out _ (B.set Bs 3 _).keeps (B.set Bs 3 _).size _ ((write_past' HW.out.1 HW.out.2))).mono ?_); rintro e w8 ⟨p8, c8, rfl, href8, hk8⟩; have B8 := (B.set Bs 3 _).on hk8; (try clear A0); (try clear A1); (try clear C0); (try clear C1); (try clear zA); (try clear zC); (try clear l0); (try clear l1); (try clear R0); (try clear R1); (try clear R2); (try clear R3); (try clear R4); (try clear hgl); (try clear Q0); (try clear T4); (try clear N0 N1 N2 N3 N4 zN); have C0 := B8.C0; have C1 := B8.C1; have zC := B8.zC))
        (try simp only [Exit.inBlock, Exit.then])
        refine bodyPost_ret (v := .tuple #[.agg #[.slice p8 d.length c8, .int .i64 room], .int .i64 0]) ?_ rfl ?_
        · rw [results_cell_tmp rfl]
          go_simp
        · have hz := rto_store (room := room) (err := 0) href8 B8.keeps (.slice p8 d.length c8) (.int .i64 room)
          unfold refV at hz
          rw [HL2.out] at hz
          exact hz

end

end Go.Proofs.Ytbcejodnjeklpaa

/-
  Contracts of the reference for layer 4: Write, all of it.
-/
namespace Go.Proofs.Ytbcejodnjeklpaa
open Go.RowKit
set_option maxRecDepth 100000
set_option maxHeartbeats 1000000

section
variable {S : Nat → Prop} {w : World} {p : Option Addr} {c : Nat} {d : Nds} {room : Int}

theorem fit_iff {a u m : Int} : (a - u < m) ↔ (a < u + m) := by omega

theorem r4write_any (h : RefAt S w p c d) (hS : ∀ g, w.heap.size ≤ g → S g) (hI : DInv d) (hs : smallD d) (i x : Int) (s : ByteArray) (hsz : s.size ≤ 4294967296) :
    Calls Try.prog 44 #[refV p c d room, .int .i64 i, .int .i64 x, .string s] w (RTo S w (writeTo d room i x s) room (writeErr d room i x s)) := by
  by_cases he : fileErr d i ≠ 0 ∨ x < 0 ∨ s.size = 0 ∨ 4194304 < x ∨ 4194304 - x < s.size
  · have hw : writeTo d room i x s = d := by
      unfold writeTo
      rw [if_neg]
      rintro ⟨h1, h2⟩
      unfold writeErr at h1
      by_cases a0 : fileErr d i = 0
      · rw [if_neg (by simpa using a0)] at h1
        by_cases a1 : x < 0
        · rw [if_pos a1] at h1; cases h1
        rw [if_neg a1, if_neg h2] at h1
        by_cases a3 : 4194304 < x
        · rw [if_pos a3] at h1; cases h1
        rw [if_neg a3] at h1
        by_cases a4 : 4194304 - x < s.size
        · rw [if_pos a4] at h1; cases h1
        exact he.elim (fun h => h a0) (fun h => h.elim a1 (fun h => h.elim h2 (fun h => h.elim a3 a4)))
      · rw [if_pos a0] at h1; exact a0 h1
    rw [hw]
    exact r4write_err h hI i x s hsz he
  · have c0 : fileErr d i = 0 := Classical.byContradiction (fun h => he (.inl h))
    have c1 : ¬ x < 0 := fun h => he (.inr (.inl h))
    have c2 : s.size ≠ 0 := fun h => he (.inr (.inr (.inl h)))
    have c3 : ¬ 4194304 < x := fun h => he (.inr (.inr (.inr (.inl h))))
    have c4 : ¬ 4194304 - x < s.size := fun h => he (.inr (.inr (.inr (.inr h))))
    clear he
    obtain ⟨X, rfl⟩ : ∃ X : Nat, x = (X : Int) := ⟨x.toNat, (Int.toNat_of_nonneg (Int.not_lt.1 c1)).symm⟩
    have hX : X + s.size ≤ 4194304 := by clear c0 h hS hI hs; omega
    have hE : writeErr d room i X s = if room - used d < endOf d i X s - (nd d i).data.size then 20 else 0 := by
      unfold writeErr
      rw [if_neg (by simpa using c0), if_neg c1, if_neg c2, if_neg c3, if_neg c4]
    by_cases hr : room - used d < endOf d i X s - (nd d i).data.size
    · rw [if_pos hr] at hE
      have hw : writeTo d room i X s = d := by unfold writeTo; rw [if_neg (fun h => by rw [hE] at h; cases h.1)]
      rw [hw, hE]
      exact r4write_room h hS hI hs i X s c0 c2 hX (by rw [Int.add_sub_assoc]; exact fit_iff.1 hr)
    · rw [if_neg hr] at hE
      have hw : writeTo d room i X s = upd d i (writeNd (nd d i) X s) := by unfold writeTo; rw [if_pos ⟨hE, c2⟩, Int.toNat_natCast]
      rw [hw, hE]
      exact r4write_ok h hS hI hs i X s c0 c2 hX (by rw [Int.add_sub_assoc]; exact fun h => hr (fit_iff.2 h))

end

end Go.Proofs.Ytbcejodnjeklpaa
