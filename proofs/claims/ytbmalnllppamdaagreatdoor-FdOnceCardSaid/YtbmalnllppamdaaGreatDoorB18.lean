/-
  Contracts of the reference for layer 4: New, Make.
-/
import Derived.Test.YtbmalnllppamdaaGreatDoorB17
import Derived.Test.YtbmalnllppamdaaGreatDoorB11
import Derived.Test.YtbmalnllppamdaaGreatDoorB15
import Derived.Deep.RegionHeld3

set_option linter.unusedSimpArgs false
set_option linter.unusedVariables false

namespace Go.Proofs.YtbmalnllppamdaaGreatDoor
open Go.RowKit
set_option maxRecDepth 100000
set_option maxHeartbeats 2000000

theorem results_cell_tmp2 {fn : Func} {p u t : Tmp} {ty : TypeId} (h : fn.results = #[.cell p ty, .tmp u, .tmp t]) (tmps : Array Value) (P : Program) (w : World) :
    (results fn tmps).run P w =
      ((asAddr (tmps.getD p undef)).run P w).andThen fun a w₁ => ((loadVar ty a).run P w₁).andThen fun v w₂ => .ok (.tuple #[v, tmps.getD u undef, tmps.getD t undef]) w₂ := by
  simp only [results, h]
  simp [Sem.run_bind, Result.andThen]

/-- What Make leaves: a disk, a number, an error. -/
def MTo (S : Nat → Prop) (w : World) (d' : Nds) (room id err : Int) (e : Ending) (w' : World) : Prop :=
  ∃ p' c', e = .returned (.tuple #[refV p' c' d' room, .int .i64 id, .int .i64 err]) ∧ RefAt S w' p' c' d' ∧ Keeps NoB w w'

section
variable {S : Nat → Prop} {w : World} {p : Option Addr} {c : Nat} {d : Nds} {room : Int}

theorem mto_store {w1 : World} {p' : Option Addr} {c' : Nat} {d' : Nds} {id err : Int} (h : RefAt (But2 S w) w1 p' c' d') (k : Keeps NoB w w1) (v0 v1 : Value) :
    MTo S w d' room id err (.returned (.tuple #[refV p' c' d' room, .int .i64 id, .int .i64 err])) ((w1.setCell ⟨w.heap.size + 1, 0, none⟩ v0).setCell ⟨w.heap.size + 1, 1, none⟩ v1) := by
  obtain ⟨p2, c2, e, h1, h2⟩ := rto_store (room := room) (err := err) h k v0 v1
  cases e
  exact ⟨_, _, rfl, h1, h2⟩

/-- The rows of New. -/
theorem r4new_any (w : World) (room : Int) (hS : ∀ g, w.heap.size ≤ g → S g) :
    Calls Tryz.prog 53 #[.int .i64 room] w fun e w' => ∃ p c, e = .returned (refV p c newD room) ∧ RefAt S w' p c newD ∧ Keeps NoB w w' := by
  go_enter Tryz.func53, Tryz.ntmps53
  go_wp2
  refine bodyPost_ret (v := refV (some ⟨w.heap.size + 1, 0, none⟩) 2 newD room) ?_ rfl ⟨_, _, rfl, ⟨[⟨0, 0, 0, ⟨#[]⟩, none, 0, 0⟩, ⟨2, 493, 0, ⟨#[]⟩, none, 0, 0⟩], rfl, ?_, fun i r hi => ?_⟩, ((Keeps.refl _ _).alloc _).alloc _⟩
  · rw [results_cell_one rfl]
    go_simp
    rfl
  · have h := own_lit (E := encRow) (e := 99) (S := S) (w := w.alloc (.cells #[.slice (some ⟨w.heap.size + 1, 0, none⟩) 2 2, .int .i64 room] 31)) [(⟨0, 0, 0, ⟨#[]⟩, none, 0, 0⟩ : RRow), ⟨2, 493, 0, ⟨#[]⟩, none, 0, 0⟩] #[.int .i64 0, .int .i64 0, .int .i64 0, .string ⟨#[]⟩, .slice none 0 0, .int .i64 2, .int .i64 493, .int .i64 0, .string ⟨#[]⟩, .slice none 0 0] rfl [(⟨0, 0, 0, ⟨#[]⟩, none, 0, 0⟩ : RRow), ⟨2, 493, 0, ⟨#[]⟩, none, 0, 0⟩].length rfl (hS _ (by simp)) (by decide)
    have h2 := h.sl.at'
    have e : (w.alloc (.cells #[.slice (some ⟨w.heap.size + 1, 0, none⟩) 2 2, .int .i64 room] 31)).heap.size = w.heap.size + 1 := by simp
    rw [e] at h2
    exact h2
  · match i, hi with
    | 0, hi => cases hi; exact ⟨rfl, rfl, rfl, rfl, rfl, (Own.nil encEnt 102 S _).sl.at'⟩
    | 1, hi => cases hi; exact ⟨rfl, rfl, rfl, rfl, rfl, (Own.nil encEnt 102 S _).sl.at'⟩
    | n + 2, hi => simp at hi

theorem r4make_err (h : RefAt S w p c d) (hI : DInv d) (hs : smallD d) (kind m : Int) (s : ByteArray) (hsz : s.size ≤ 4294967296) (he : makeErr d room kind m s ≠ 0) :
    Calls Tryz.prog 180 #[refV p c d room, .int .i64 kind, .int .i64 m, .string s] w (MTo S w d room 0 (makeErr d room kind m s)) := by
  have hcap := h.cap
  have hmax := h.max
  unfold maxLen at hmax
  have HCo := Lib.hid (fun (w1 : World) (hk : Keeps NoB w w1) => r4count_any (room := room) (h.keepN hk) hI.zero (by have := hI.two; omega) hs)
  have HUs := Lib.hid (fun (w1 : World) (hk : Keeps NoB w w1) => r4used_any (room := room) (h.keepN hk) hI.zero (by have := hI.two; omega) hI hs)
  have H0 := Lib.hid (fun (w1 : World) (hk : Keeps NoB w w1) => h.keepN hk)
  have Hh := Lib.hid (fun (w1 : World) (hk : Keeps NoB w w1) => h.but2 hk)
  have B := rbox (w := w) (Keeps.refl NoB ((w.alloc (.cells #[.slice p d.length c, .int .i64 room] 31)).alloc (.cells #[.slice none 0 0, .int .i64 0] 31)))
  have hul := used_le2 hI hs
  unfold makeErr at he ⊢
  clear h hI hs
  unfold refV at *
  by_cases c1 : kind < 1
  · rw [if_pos c1]
    clear he
    go_enter Tryz.func180, Tryz.ntmps180
    go_wp2
    (try simp only [Exit.inBlock, Exit.then])
    refine bodyPost_ret (v := .tuple #[.agg #[.slice p d.length c, .int .i64 room], .int .i64 0, .int .i64 43]) ?_ rfl ?_
    · rw [results_cell_tmp2 rfl]
      go_simp
    · exact ⟨_, _, rfl, H0.out _ (((Keeps.refl _ _).alloc _).alloc _), ((Keeps.refl _ _).alloc _).alloc _⟩
  rw [if_neg c1] at he ⊢
  by_cases c2 : 3 < kind
  · rw [if_pos c2]
    clear he
    go_enter Tryz.func180, Tryz.ntmps180
    go_wp2
    (try simp only [Exit.inBlock, Exit.then])
    refine bodyPost_ret (v := .tuple #[.agg #[.slice p d.length c, .int .i64 room], .int .i64 0, .int .i64 43]) ?_ rfl ?_
    · rw [results_cell_tmp2 rfl]
      go_simp
    · exact ⟨_, _, rfl, H0.out _ (((Keeps.refl _ _).alloc _).alloc _), ((Keeps.refl _ _).alloc _).alloc _⟩
  rw [if_neg c2] at he ⊢
  by_cases c3 : kind = 2 ∧ s.size ≠ 0
  · rw [if_pos c3]
    obtain ⟨rfl, c3⟩ := c3
    have hne : (s.toList == []) = false := beq_false_of_ne (fun e => c3 ((toList_nil s).1 e))
    clear he c3
    go_enter Tryz.func180, Tryz.ntmps180
    go_wp2
    (try simp only [Exit.inBlock, Exit.then])
    refine bodyPost_ret (v := .tuple #[.agg #[.slice p d.length c, .int .i64 room], .int .i64 0, .int .i64 43]) ?_ rfl ?_
    · rw [results_cell_tmp2 rfl]
      go_simp
    · exact ⟨_, _, rfl, H0.out _ (((Keeps.refl _ _).alloc _).alloc _), ((Keeps.refl _ _).alloc _).alloc _⟩
  rw [if_neg c3] at he ⊢
  have k2 : kind ≠ 2 ∨ (kind = 2 ∧ s = ⟨#[]⟩) := by
    by_cases e : kind = 2
    · refine .inr ⟨e, ByteArray.ext (Array.eq_empty_of_size_eq_zero ?_)⟩
      have : ¬ s.size ≠ 0 := fun h => c3 ⟨e, h⟩
      have := Classical.not_not.1 this
      exact this
    · exact .inl e
  clear c3
  by_cases c4 : okMode m = false
  · rw [if_pos c4]
    have hm : m < 0 ∨ (¬ m < 0 ∧ 4095 < m) := by
      unfold okMode at c4
      simp at c4
      omega
    clear he c4
    rcases k2 with k2 | ⟨rfl, rfl⟩ <;> rcases hm with hm | ⟨hm, hm2⟩
    all_goals
      go_enter Tryz.func180, Tryz.ntmps180
      go_wp2
      (try simp only [Exit.inBlock, Exit.then])
      refine bodyPost_ret (v := .tuple #[.agg #[.slice p d.length c, .int .i64 room], .int .i64 0, .int .i64 10]) ?_ rfl ?_
      · rw [results_cell_tmp2 rfl]
        go_simp
      · exact ⟨_, _, rfl, H0.out _ (((Keeps.refl _ _).alloc _).alloc _), ((Keeps.refl _ _).alloc _).alloc _⟩
  rw [if_neg c4] at he ⊢
  have hm : ¬ m < 0 ∧ ¬ 4095 < m := by
    have : okMode m = true := by simpa using c4
    unfold okMode at this
    simp at this
    omega
  obtain ⟨hm, hm2⟩ := hm
  clear c4
  by_cases c5 : 4194304 < s.size
  · rw [if_pos c5]
    have c5' : (4194304 : Int) < (s.size : Int) := by omega
    rcases k2 with k2 | ⟨rfl, rfl⟩
    · clear he c5
      go_enter Tryz.func180, Tryz.ntmps180
      go_wp2
      (try simp only [Exit.inBlock, Exit.then])
      refine bodyPost_ret (v := .tuple #[.agg #[.slice p d.length c, .int .i64 room], .int .i64 0, .int .i64 18]) ?_ rfl ?_
      · rw [results_cell_tmp2 rfl]
        go_simp
      · exact ⟨_, _, rfl, H0.out _ (((Keeps.refl _ _).alloc _).alloc _), ((Keeps.refl _ _).alloc _).alloc _⟩
    · exact absurd c5 (by decide)
  rw [if_neg c5] at he ⊢
  have c5' : ¬ ((4194304 : Int) < (s.size : Int)) := by omega
  have hsn : s.size ≤ 4194304 := by omega
  clear c5
  by_cases c6 : 65536 ≤ count d
  · rw [if_pos c6]
    have c6' : (65536 : Int) ≤ (count d : Int) := by omega
    clear he c6 hul
    generalize (count d : Int) = cd at *
    rcases k2 with k2 | ⟨rfl, rfl⟩
    all_goals
      go_enter Tryz.func180, Tryz.ntmps180
      go_wp2_with (go_at_call 233; refine (HCo.out _ B.keeps).mono ?_; rintro e w1 ⟨rfl, hk1⟩; (try clear A0); (try clear A1); (try clear C0); (try clear C1); (try clear zA); (try clear zC); (try clear l0); (try clear l1); (try clear R0); (try clear R1); (try clear R2); (try clear R3); (try clear R4); (try clear hgl); (try clear Q0); (try clear T4); replace B := B.on hk1; clear hk1; have A0 := B.A0; have A1 := B.A1; have C0 := B.C0; have C1 := B.C1; have zA := B.zA; have zC := B.zC; have l0 : w.heap.size < w1.heap.size := Nat.lt_of_lt_of_le (by simp) B.size; have l1 : w.heap.size + 1 < w1.heap.size := B.size)
      (try simp only [Exit.inBlock, Exit.then])
      refine bodyPost_ret (v := .tuple #[.agg #[.slice p d.length c, .int .i64 room], .int .i64 0, .int .i64 24]) ?_ rfl ?_
      · rw [results_cell_tmp2 rfl]
        go_simp
      · exact mto_store (Hh.out _ B.keeps) B.keeps _ _
  rw [if_neg c6] at he ⊢
  have c6' : ¬ ((65536 : Int) ≤ (count d : Int)) := by omega
  have c6'' : ((65536 : Int) ≤ (count d : Int)) = False := by simp; omega
  clear c6
  by_cases c7 : room - used d < s.size
  · rw [if_pos c7]
    have hr : room < (used d : Int) + (s.size : Int) := by omega
    have hwr := wrap_make hul hsn
    clear he c7 hul
    generalize (count d : Int) = cd at *
    generalize (used d : Int) = us at *
    have hwi : IntKind.i64.wrap (us + (s.size : Int)) = us + (s.size : Int) := by rw [← hwr]; exact wrap_wrap64x _
    have hz0 : (s.size : Int) = 0 → room < IntKind.i64.wrap us := fun e => by rw [e, Int.add_zero] at hr hwi; rw [hwi]; exact hr
    rcases k2 with k2 | ⟨rfl, rfl⟩
    all_goals
      go_enter Tryz.func180, Tryz.ntmps180
      go_upto_region 10 with (go_at_call 233; refine (HCo.out _ B.keeps).mono ?_; rintro e w1 ⟨rfl, hk1⟩; (try clear A0); (try clear A1); (try clear C0); (try clear C1); (try clear zA); (try clear zC); (try clear l0); (try clear l1); (try clear R0); (try clear R1); (try clear R2); (try clear R3); (try clear R4); (try clear hgl); (try clear Q0); (try clear T4); replace B := B.on hk1; clear hk1; have A0 := B.A0; have A1 := B.A1; have C0 := B.C0; have C1 := B.C1; have zA := B.zA; have zC := B.zC; have l0 : w.heap.size < w1.heap.size := Nat.lt_of_lt_of_le (by simp) B.size; have l1 : w.heap.size + 1 < w1.heap.size := B.size)
      go_cut [46] from 39 to 46 (fun x wx => x = .bool true ∧ Keeps NoB w1 wx)
      case first =>
        have kr : Keeps NoB w1 w1 := Keeps.refl NoB w1
        have krd : Keeps NoB w1 w1.drew := kr.drew
        have Bd := B.on krd
        go_region_held3 (fun wz => wz.cell? ⟨w.heap.size, 0, none⟩ = some (.slice p d.length c) ∧ wz.cell? ⟨w.heap.size, 1, none⟩ = some (.int .i64 room) ∧ Keeps NoB w1 wz) (first | exact ⟨B.A0, B.A1, kr⟩ | exact ⟨Bd.A0, Bd.A1, krd⟩ | exact ⟨B6.A0, B6.A1, hk26⟩ | exact ⟨B6d.A0, B6d.A1, hk26d⟩)
          (first | (go_at_call 45; refine (HUs.out _ (B.keeps.trans (by assumption))).mono ?_; rintro e w6 ⟨rfl, hk6⟩; have hk26 : Keeps NoB w1 w6 := Keeps.trans (by assumption) hk6; have B6 := B.on hk26; have hk26d := hk26.drew; have B6d := B.on hk26d; have A06 := B6.A0; have A16 := B6.A1))
        all_goals (go_wp2_with fail; go_meet; exact ⟨by first | (simp [hwi, hr]; done) | (simp [hz0 rfl]; done), by first | exact hk26 | exact hk26.drew⟩)
      case rest =>
        obtain ⟨rfl, hk26⟩ := hcut
        replace B := B.on hk26
        (try clear A0); (try clear A1); (try clear C0); (try clear C1); (try clear zA); (try clear zC); (try clear l0); (try clear l1); (try clear R0); (try clear R1); (try clear R2); (try clear R3); (try clear R4); (try clear hgl); (try clear Q0); (try clear T4)
        have A0 := B.A0
        have A1 := B.A1
        have C0 := B.C0
        have C1 := B.C1
        have zA := B.zA
        have zC := B.zC
        go_wp2_with fail
        (try simp only [Exit.inBlock, Exit.then])
        refine bodyPost_ret (v := .tuple #[.agg #[.slice p d.length c, .int .i64 room], .int .i64 0, .int .i64 20]) ?_ rfl ?_
        · rw [results_cell_tmp2 rfl]
          go_simp
        · exact mto_store (Hh.out _ B.keeps) B.keeps _ _
  · rw [if_neg c7] at he
    exact absurd rfl he

theorem make_store {w4 : World} {e : TypeId} {g4 cp4 : Nat} {rows : List RRow} {kind m : Int} {s : ByteArray} (hk : Keeps NoB w w4) (hS : ∀ g, w.heap.size ≤ g → S g)
    (ho : Own encRow e (fun g => w.heap.size + 2 ≤ g) w4 (.slice (some ⟨g4, 0, none⟩) (rows ++ [(⟨kind, m, 1, s, none, 0, 0⟩ : RRow)]).length cp4) (rows ++ [⟨kind, m, 1, s, none, 0, 0⟩]))
    (hr1 : rows.length = d.length) (hr3 : ∀ (i : Nat) (r : RRow), rows[i]? = some r → RowIs S w r (nd d i)) (hd : d.length ≤ 4294967296) (hg : w.heap.size + 2 ≤ g4) (v0 v1 v2 : Value) :
    MTo S w (d ++ [newNd kind m s]) room d.length 0 (.returned (.tuple #[.agg #[.slice (some ⟨g4, 0, none⟩) (rows.length + 1) cp4, .int .i64 room], .int .i64 (wrap64 (rows.length : Int)), .int .i64 0]))
      (((w4.setCell ⟨w.heap.size, 0, none⟩ v0).setCell ⟨w.heap.size + 1, 0, none⟩ v1).setCell ⟨w.heap.size + 1, 1, none⟩ v2) := by
  have kk : Keeps (fun b => b = w.heap.size ∨ b = w.heap.size + 1) w4 (((w4.setCell ⟨w.heap.size, 0, none⟩ v0).setCell ⟨w.heap.size + 1, 0, none⟩ v1).setCell ⟨w.heap.size + 1, 1, none⟩ v2) :=
    (((keeps_set w4 ⟨w.heap.size, 0, none⟩ v0).mono (fun b _ hb => .inl hb)).trans ((keeps_set _ ⟨w.heap.size + 1, 0, none⟩ v1).mono (fun b _ hb => .inr hb))).trans ((keeps_set _ ⟨w.heap.size + 1, 1, none⟩ v2).mono (fun b _ hb => .inr hb))
  have kF := hk.step kk (fun b hb => .inr (by omega))
  have hwl : wrap64 (rows.length : Int) = (d.length : Int) := by rw [hr1]; exact IntWalk.wrap64_in _ (by omega)
  refine ⟨some ⟨g4, 0, none⟩, cp4, ?_, ⟨rows ++ [⟨kind, m, 1, s, none, 0, 0⟩], by simp [hr1], ?_, fun i r hi => ?_⟩, kF⟩
  · unfold refV
    rw [hwl, hr1]
    simp
  · have h1 := ho.keep kk (fun b hb e => by
      simp [Value.ownBlock] at hb
      subst hb
      omega)
    exact (h1.sl.mono (fun b hb _ => hS b (by omega))).at'
  · rw [nd_append]
    by_cases e : i < rows.length
    · rw [List.getElem?_append_left e] at hi
      rw [if_neg (by omega)]
      exact (hr3 i r hi).keepS kF (fun _ _ _ h => h) (fun _ h _ => h)
    · rw [List.getElem?_append_right (by omega)] at hi
      have hi0 : i - rows.length = 0 := by
        by_cases h0 : i - rows.length = 0
        · exact h0
        · rw [List.getElem?_eq_none (by simp; omega)] at hi; cases hi
      rw [hi0] at hi
      cases hi
      rw [if_pos (by omega)]
      exact ⟨rfl, rfl, rfl, rfl, rfl, (Own.nil encEnt 102 S _).sl.at'⟩

theorem r4make_ok (h : RefAt S w p c d) (hS : ∀ g, w.heap.size ≤ g → S g) (hI : DInv d) (hs : smallD d) (kind m : Int) (s : ByteArray) (he : makeErr d room kind m s = 0) :
    Calls Tryz.prog 180 #[refV p c d room, .int .i64 kind, .int .i64 m, .string s] w (MTo S w (d ++ [newNd kind m s]) room d.length 0) := by
  have hcap := h.cap
  have hmax := h.max
  unfold maxLen at hmax
  have HCo := Lib.hid (fun (w1 : World) (hk : Keeps NoB w w1) => r4count_any (room := room) (h.keepN hk) hI.zero (by have := hI.two; omega) hs)
  have HUs := Lib.hid (fun (w1 : World) (hk : Keeps NoB w w1) => r4used_any (room := room) (h.keepN hk) hI.zero (by have := hI.two; omega) hI hs)
  have H0 := Lib.hid (fun (w1 : World) (hk : Keeps NoB w w1) => h.keepN hk)
  have B := rbox (w := w) (Keeps.refl NoB ((w.alloc (.cells #[.slice p d.length c, .int .i64 room] 31)).alloc (.cells #[.slice none 0 0, .int .i64 0] 31)))
  have hul := used_le2 hI hs
  have hml := mass_ge d
  have hdl : d.length ≤ 4294967296 := by unfold smallD at hs; omega
  unfold makeErr at he
  have htwo := hI.two
  clear hI hs hml
  split at he; · cases he
  split at he; · cases he
  split at he; · cases he
  split at he; · cases he
  split at he; · cases he
  split at he; · cases he
  split at he; · cases he
  next c1 c2 c3 c4 c5 c6 c7 =>
  have k2 : kind ≠ 2 ∨ (kind = 2 ∧ s = ⟨#[]⟩) := by
    by_cases e : kind = 2
    · refine .inr ⟨e, ByteArray.ext (Array.eq_empty_of_size_eq_zero ?_)⟩
      have : ¬ s.size ≠ 0 := fun h => c3 ⟨e, h⟩
      have := Classical.not_not.1 this
      exact this
    · exact .inl e
  have hm : ¬ m < 0 ∧ ¬ 4095 < m := by
    have : okMode m = true := by simpa using c4
    unfold okMode at this
    simp at this
    omega
  obtain ⟨hm, hm2⟩ := hm
  have c5' : ¬ ((4194304 : Int) < (s.size : Int)) := by omega
  have hsn : s.size ≤ 4194304 := by omega
  have c6' : ¬ ((65536 : Int) ≤ (count d : Int)) := by omega
  have c6'' : ((65536 : Int) ≤ (count d : Int)) = False := by simp; omega
  have hr : ¬ room < (used d : Int) + (s.size : Int) := by omega
  have hwr := wrap_make hul hsn
  obtain ⟨rows, hr1, hr2, hr3⟩ := h.rows
  have HSl := Lib.hid (fun (wx : World) (hk : Keeps NoB w wx) => (⟨p, c, by rw [hr1], hr2.keepN hk⟩ : Sl encRow S wx (.slice p d.length c) rows))
  have HR3 := Lib.hid hr3
  have HR1 := Lib.hid hr1
  have hwl : wrap64 (((d.length : Int) + 1) - 1) = (d.length : Int) := by rw [IntWalk.wrap64_in _ (by omega)]; omega
  unfold refV at *
  clear he c3 c4 c5 c6 c7 hul hr1 hr2 hr3 h
  generalize (count d : Int) = cd at *
  generalize (used d : Int) = us at *
  have hwi : IntKind.i64.wrap (us + (s.size : Int)) = us + (s.size : Int) := by rw [← hwr]; exact wrap_wrap64x _
  have hz0 : (s.size : Int) = 0 → ¬ room < IntKind.i64.wrap us := fun e => by rw [e, Int.add_zero] at hr hwi; rw [hwi]; exact hr
  rcases k2 with k2 | ⟨rfl, rfl⟩
  case inl =>
      go_enter Tryz.func180, Tryz.ntmps180
      go_upto_region 10 with (go_at_call 233; refine (HCo.out _ B.keeps).mono ?_; rintro e w1 ⟨rfl, hk1⟩; (try clear A0); (try clear A1); (try clear C0); (try clear C1); (try clear zA); (try clear zC); (try clear l0); (try clear l1); (try clear R0); (try clear R1); (try clear R2); (try clear R3); (try clear R4); (try clear hgl); (try clear Q0); (try clear T4); replace B := B.on hk1; clear hk1; have A0 := B.A0; have A1 := B.A1; have C0 := B.C0; have C1 := B.C1; have zA := B.zA; have zC := B.zC; have l0 : w.heap.size < w1.heap.size := Nat.lt_of_lt_of_le (by simp) B.size; have l1 : w.heap.size + 1 < w1.heap.size := B.size)
      go_cut [46] from 39 to 46 (fun x wx => x = .bool false ∧ Keeps NoB w1 wx)
      case first =>
        have kr : Keeps NoB w1 w1 := Keeps.refl NoB w1
        have krd : Keeps NoB w1 w1.drew := kr.drew
        have Bd := B.on krd
        go_region_held3 (fun wz => wz.cell? ⟨w.heap.size, 0, none⟩ = some (.slice p d.length c) ∧ wz.cell? ⟨w.heap.size, 1, none⟩ = some (.int .i64 room) ∧ Keeps NoB w1 wz) (first | exact ⟨B.A0, B.A1, kr⟩ | exact ⟨Bd.A0, Bd.A1, krd⟩ | exact ⟨B6.A0, B6.A1, hk26⟩ | exact ⟨B6d.A0, B6d.A1, hk26d⟩)
          (first | (go_at_call 45; refine (HUs.out _ (B.keeps.trans (by assumption))).mono ?_; rintro e w6 ⟨rfl, hk6⟩; have hk26 : Keeps NoB w1 w6 := Keeps.trans (by assumption) hk6; have B6 := B.on hk26; have hk26d := hk26.drew; have B6d := B.on hk26d; have A06 := B6.A0; have A16 := B6.A1))
        all_goals (go_wp2_with fail; go_meet; exact ⟨by first | (simp [hwi, hr]; done) | (simp [hz0 rfl]; done), by first | exact hk26 | exact hk26.drew⟩)
      case rest =>
        obtain ⟨rfl, hk26⟩ := hcut
        replace B := B.on hk26
        (try clear A0); (try clear A1); (try clear C0); (try clear C1); (try clear zA); (try clear zC); (try clear l0); (try clear l1); (try clear R0); (try clear R1); (try clear R2); (try clear R3); (try clear R4); (try clear hgl); (try clear Q0); (try clear T4)
        have A0 := B.A0
        have A1 := B.A1
        have C0 := B.C0
        have C1 := B.C1
        have zA := B.zA
        have zC := B.zC
        go_wp2_with (first | (at_builtin; go_loud (refine wpl_append rfl (.tmp 51) (.tmp 53) rfl tRow (Own.nil encRow 99 (fun g => w.heap.size + 2 ≤ g) _) (HSl.out _ B.keeps) rfl rfl B.size (by have := HR1.out; simp [maxLen]; omega) (by have := HR1.out; simp; omega) ?_); intro v3 w3 ho3 hk3 hf3; rw [List.nil_append] at ho3; have k3 := hk3.mono (G := NoB) (fun _ _ h => by cases h); have hf3' : ∀ g, v3.ownBlock = some g → wc.heap.size ≤ g := (fun g hg => (hf3 g hg).resolve_left (fun h => by cases h)); have Bz := B.size; have B3 := B.on k3; obtain ⟨g3, cp3, cur3, rfl, hS3, hg3, hcp3, hcm3, hsz3, htk3⟩ := ho3.row (by have := HR1.out; omega); clear hsz3 htk3; (try clear A0); (try clear A1); (try clear C0); (try clear C1); (try clear zA); (try clear zC); (try clear l0); (try clear l1); (try clear R0); (try clear R1); (try clear R2); (try clear R3); (try clear R4); (try clear hgl); (try clear Q0); (try clear T4); have A0 := B3.A0; have A1 := B3.A1; have C0 := B3.C0; have C1 := B3.C1; have zA := B3.zA; have zC := B3.zC) | (at_builtin; go_loud (refine wpl_append rfl (.tmp 55) (.tmp 60) rfl tRow (ho3.keep ((Keeps.refl NoB _).alloc _) (fun _ _ h => h)) (own_lit (S := fun _ => True) [(⟨kind, m, 1, s, none, 0, 0⟩ : RRow)] #[.int .i64 kind, .int .i64 m, .int .i64 1, .string s, .slice none 0 0] rfl 1 rfl trivial (by decide)).sl rfl rfl (by have := B3.size; simp; omega) (by have := HR1.out; simp [maxLen]; omega) (by have := HR1.out; simp; omega) ?_); intro v4 w4 ho4 hk4 hf4; have B4 := (B3.on ((Keeps.refl NoB _).alloc _)).keep hk4 (fun h => by have := hf3' _ h; omega) (fun h => by have := hf3' _ h; omega) (fun b h => by have := hf3' _ h; omega); obtain ⟨g4, cp4, cur4, rfl, hS4, hg4, hcp4, hcm4, hsz4, htk4⟩ := ho4.row (by simp); clear hsz4 htk4 hg4; (try clear A0); (try clear A1); (try clear C0); (try clear C1); (try clear zA); (try clear zC); (try clear l0); (try clear l1); (try clear R0); (try clear R1); (try clear R2); (try clear R3); (try clear R4); (try clear hgl); (try clear Q0); (try clear T4); have A0 := B4.A0; have A1 := B4.A1; have C0 := B4.C0; have C1 := B4.C1; have zA := B4.zA; have zC := B4.zC))
        (try simp only [Exit.inBlock, Exit.then])
        refine bodyPost_ret (v := .tuple #[.agg #[.slice (some ⟨g4, 0, none⟩) (rows.length + 1) cp4, .int .i64 room], .int .i64 (wrap64 (rows.length : Int)), .int .i64 0]) ?_ rfl ?_
        · rw [results_cell_tmp2 rfl]
          go_simp
        · exact make_store B4.keeps hS ho4 HR1.out HR3.out hdl hS4 _ _ _
  case inr =>
      go_enter Tryz.func180, Tryz.ntmps180
      go_upto_region 10 with (go_at_call 233; refine (HCo.out _ B.keeps).mono ?_; rintro e w1 ⟨rfl, hk1⟩; (try clear A0); (try clear A1); (try clear C0); (try clear C1); (try clear zA); (try clear zC); (try clear l0); (try clear l1); (try clear R0); (try clear R1); (try clear R2); (try clear R3); (try clear R4); (try clear hgl); (try clear Q0); (try clear T4); replace B := B.on hk1; clear hk1; have A0 := B.A0; have A1 := B.A1; have C0 := B.C0; have C1 := B.C1; have zA := B.zA; have zC := B.zC; have l0 : w.heap.size < w1.heap.size := Nat.lt_of_lt_of_le (by simp) B.size; have l1 : w.heap.size + 1 < w1.heap.size := B.size)
      go_cut [46] from 39 to 46 (fun x wx => x = .bool false ∧ Keeps NoB w1 wx)
      case first =>
        have kr : Keeps NoB w1 w1 := Keeps.refl NoB w1
        have krd : Keeps NoB w1 w1.drew := kr.drew
        have Bd := B.on krd
        go_region_held3 (fun wz => wz.cell? ⟨w.heap.size, 0, none⟩ = some (.slice p d.length c) ∧ wz.cell? ⟨w.heap.size, 1, none⟩ = some (.int .i64 room) ∧ Keeps NoB w1 wz) (first | exact ⟨B.A0, B.A1, kr⟩ | exact ⟨Bd.A0, Bd.A1, krd⟩ | exact ⟨B6.A0, B6.A1, hk26⟩ | exact ⟨B6d.A0, B6d.A1, hk26d⟩)
          (first | (go_at_call 45; refine (HUs.out _ (B.keeps.trans (by assumption))).mono ?_; rintro e w6 ⟨rfl, hk6⟩; have hk26 : Keeps NoB w1 w6 := Keeps.trans (by assumption) hk6; have B6 := B.on hk26; have hk26d := hk26.drew; have B6d := B.on hk26d; have A06 := B6.A0; have A16 := B6.A1))
        all_goals (go_wp2_with fail; go_meet; exact ⟨by first | (simp [hwi, hr]; done) | (simp [hz0 rfl]; done), by first | exact hk26 | exact hk26.drew⟩)
      case rest =>
        obtain ⟨rfl, hk26⟩ := hcut
        replace B := B.on hk26
        (try clear A0); (try clear A1); (try clear C0); (try clear C1); (try clear zA); (try clear zC); (try clear l0); (try clear l1); (try clear R0); (try clear R1); (try clear R2); (try clear R3); (try clear R4); (try clear hgl); (try clear Q0); (try clear T4)
        have A0 := B.A0
        have A1 := B.A1
        have C0 := B.C0
        have C1 := B.C1
        have zA := B.zA
        have zC := B.zC
        go_wp2_with (first | (at_builtin; go_loud (refine wpl_append rfl (.tmp 51) (.tmp 53) rfl tRow (Own.nil encRow 99 (fun g => w.heap.size + 2 ≤ g) _) (HSl.out _ B.keeps) rfl rfl B.size (by have := HR1.out; simp [maxLen]; omega) (by have := HR1.out; simp; omega) ?_); intro v3 w3 ho3 hk3 hf3; rw [List.nil_append] at ho3; have k3 := hk3.mono (G := NoB) (fun _ _ h => by cases h); have hf3' : ∀ g, v3.ownBlock = some g → wc.heap.size ≤ g := (fun g hg => (hf3 g hg).resolve_left (fun h => by cases h)); have Bz := B.size; have B3 := B.on k3; obtain ⟨g3, cp3, cur3, rfl, hS3, hg3, hcp3, hcm3, hsz3, htk3⟩ := ho3.row (by have := HR1.out; omega); clear hsz3 htk3; (try clear A0); (try clear A1); (try clear C0); (try clear C1); (try clear zA); (try clear zC); (try clear l0); (try clear l1); (try clear R0); (try clear R1); (try clear R2); (try clear R3); (try clear R4); (try clear hgl); (try clear Q0); (try clear T4); have A0 := B3.A0; have A1 := B3.A1; have C0 := B3.C0; have C1 := B3.C1; have zA := B3.zA; have zC := B3.zC) | (at_builtin; go_loud (refine wpl_append rfl (.tmp 55) (.tmp 60) rfl tRow (ho3.keep ((Keeps.refl NoB _).alloc _) (fun _ _ h => h)) (own_lit (S := fun _ => True) [(⟨2, m, 1, ⟨#[]⟩, none, 0, 0⟩ : RRow)] #[.int .i64 2, .int .i64 m, .int .i64 1, .string ⟨#[]⟩, .slice none 0 0] rfl 1 rfl trivial (by decide)).sl rfl rfl (by have := B3.size; simp; omega) (by have := HR1.out; simp [maxLen]; omega) (by have := HR1.out; simp; omega) ?_); intro v4 w4 ho4 hk4 hf4; have B4 := (B3.on ((Keeps.refl NoB _).alloc _)).keep hk4 (fun h => by have := hf3' _ h; omega) (fun h => by have := hf3' _ h; omega) (fun b h => by have := hf3' _ h; omega); obtain ⟨g4, cp4, cur4, rfl, hS4, hg4, hcp4, hcm4, hsz4, htk4⟩ := ho4.row (by simp); clear hsz4 htk4 hg4; (try clear A0); (try clear A1); (try clear C0); (try clear C1); (try clear zA); (try clear zC); (try clear l0); (try clear l1); (try clear R0); (try clear R1); (try clear R2); (try clear R3); (try clear R4); (try clear hgl); (try clear Q0); (try clear T4); have A0 := B4.A0; have A1 := B4.A1; have C0 := B4.C0; have C1 := B4.C1; have zA := B4.zA; have zC := B4.zC))
        (try simp only [Exit.inBlock, Exit.then])
        refine bodyPost_ret (v := .tuple #[.agg #[.slice (some ⟨g4, 0, none⟩) (rows.length + 1) cp4, .int .i64 room], .int .i64 (wrap64 (rows.length : Int)), .int .i64 0]) ?_ rfl ?_
        · rw [results_cell_tmp2 rfl]
          go_simp
        · exact make_store B4.keeps hS ho4 HR1.out HR3.out hdl hS4 _ _ _

theorem r4make_any (h : RefAt S w p c d) (hS : ∀ g, w.heap.size ≤ g → S g) (hI : DInv d) (hs : smallD d) (kind m : Int) (s : ByteArray) (hsz : s.size ≤ 4294967296) :
    Calls Tryz.prog 180 #[refV p c d room, .int .i64 kind, .int .i64 m, .string s] w (MTo S w (makeTo d room kind m s) room (makeId d room kind m s) (makeErr d room kind m s)) := by
  unfold makeId makeTo
  by_cases he : makeErr d room kind m s = 0
  · rw [if_pos he, if_pos he, he]; exact r4make_ok h hS hI hs kind m s he
  · rw [if_neg he, if_neg he]; exact r4make_err h hI hs kind m s hsz he

end

end Go.Proofs.YtbmalnllppamdaaGreatDoor
