/-
  DiskPlays: the walk.
-/
import Derived.Test.YtbcejodnjeklpaaZLaw4N
import Derived.Test.YtbcejodnjeklpaaZLaw4R

set_option linter.unusedSimpArgs false
set_option linter.unusedVariables false

namespace Go.Proofs.Ytbcejodnjeklpaa
open Go.RowKit
set_option maxRecDepth 100000
set_option maxHeartbeats 2000000

theorem wrap_len1 {n m : Nat} (h : n ≤ m) (hm : m ≤ 122) : wrap64 ((n : Int) + 1) = (n : Int) + 1 := IntWalk.wrap64_in _ (by omega)
theorem mass_122 {m k n : Nat} (h : m ≤ 2 + 2 * k) (hk : k ≤ n) (hn : n ≤ 60) : m ≤ 122 := by omega

theorem plays_any (W : World) (room : Int) (hr2 : room ≤ 9223372036854775807) (p : Option Addr) (c : Nat) (ops : List Op4) (h : SlAt encOp4 (fun g => g < W.heap.size) W p c ops) :
    Calls Try.prog 7 #[.int .i64 room, .slice p ops.length c] W fun e w' => TrueEnd W w' e := by
  have hcap := h.cap
  have hmax := h.max
  unfold maxLen at hmax
  by_cases hr : room < 0
  · have HN := Lib.hid (fun (w1 : World) => (new_any w1 room hr2).mono (R' := fun e w' => e = .returned (.tuple #[.pointer none, .int .i64 10]) ∧ w1 = w') (fun e w' h => by rw [if_pos hr] at h; exact h))
    go_enter Try.func7, Try.ntmps7
    go_wp2_with (first | (go_at_call 8; refine (anchor_call _).mono ?_; rintro e w1 ⟨rfl, hk1⟩) | (go_at_call 9; refine (HN.out _).mono ?_; rintro e w2 ⟨rfl, rfl⟩))
    go_ret
    exact ⟨rfl, hk1⟩
  have hr0 : 0 ≤ room := by omega
  have HN := Lib.hid (fun (w1 : World) => new_ok w1 room hr0 hr2)
  by_cases hsm : Small ops
  case neg =>
    have HS := Lib.hid (fun (w1 : World) (hk : Keeps NoB W w1) => small_says (h.keepN hk) false ⟨(fun h => by cases h), fun h => absurd h hsm⟩)
    clear hsm
    go_enter Try.func7, Try.ntmps7
    go_wp2_with (first | (go_at_call 8; refine (anchor_call _).mono ?_; rintro e w1 ⟨rfl, hk1⟩) | (go_at_call 9; refine (HN.out _).mono ?_; rintro e w2 ⟨a, rfl, h2⟩; have hk2 := hk1.trans h2.keeps) | (go_at_call 14; refine (HS.out _ hk2).mono ?_; rintro e w3 ⟨rfl, hk3⟩))
    go_ret
    exact ⟨rfl, hk2.trans hk3⟩
  case pos =>
    have HS := Lib.hid (fun (w1 : World) (hk : Keeps NoB W w1) => small_says (h.keepN hk) true ⟨fun _ => hsm, fun _ => rfl⟩)
    have Hsm := Lib.hid hsm
    clear hsm
    go_enter Try.func7, Try.ntmps7
    go_wp2_with (first | (go_at_call 8; refine (anchor_call _).mono ?_; rintro e w1 ⟨rfl, hk1⟩) | (go_at_call 9; refine (HN.out _).mono ?_; rintro e w2 ⟨a, rfl, h2⟩; replace h2 := h2.base hk1; have hk2 := h2.keeps) | (go_at_call 14; refine (HS.out _ hk2).mono ?_; rintro e w3 ⟨rfl, hk3⟩; replace h2 := h2.on hk3) | (go_at_call 15; refine (pair_new h2).mono ?_; rintro e w4 ⟨p4, c4, rfl, hp4, hk4⟩; have hst := LawAt.start hp4 hk4 39; unfold refV))
    have Hst := Lib.hid hst
    clear hst hp4 hk4 h2 hk1 hk2 hk3 HN HS
    go_loopw [10, 40] (fun _ i wr => ∃ (k : Nat) (pr : Option Addr) (cr : Nat) (d : Nds), k ≤ ops.length ∧ i = .int .i64 k ∧ mass d ≤ 2 + 2 * k ∧ LawAt W wr w4.heap.size a pr cr d room) (fun _ i _ => ops.length - (intOf i).toNat)
    case atStart => exact ⟨0, p4, c4, newD, Nat.zero_le _, rfl, by rw [mass_new]; decide, Hst.out⟩
    case round =>
      rename_i wr
      obtain ⟨k, pr, cr, d, hk, rfl, hms, hL⟩ := hrel
      have HL := Lib.hid hL
      have HM := Lib.hid hms
      have X0 := hL.X0
      have X1 := hL.X1
      have zX := hL.zX
      have lX := hL.lt
      clear hL hms Hst
      by_cases hlt : k < ops.length
      · obtain ⟨o, hx⟩ : ∃ o, ops[k]? = some o := ⟨_, List.getElem?_eq_getElem hlt⟩
        obtain ⟨g, off, rfl, hS, hg, c0, c1, c2, c3, c4⟩ := (h.keepN HL.out.keeps).op4 hx
        have hso := Lib.hid (Hsm.out.1 o (List.mem_of_getElem? hx))
        have hk60 := Lib.hid (Nat.le_trans hk Hsm.out.2)
        clear hx
        have hal : Keeps NoB wr (wr.alloc (.cells #[.int .i64 o.kind, .int .i64 o.a, .int .i64 o.b, .string o.s, .string o.t] 31)) := (Keeps.refl _ _).alloc _
        by_cases hlo : LoopP d o
        · have hlp := Lib.hid (law_loop (HL.out.on hal) o true ⟨fun _ => hlo, fun _ => rfl⟩)
          clear hlo
          unfold refV at hlp
          go_wp2_with (go_at_call 16; refine hlp.out.mono ?_; rintro e w5 ⟨rfl, hk5⟩)
          go_roundw
          case rel => exact ⟨k + 1, pr, cr, d, by omega, by go_num, by have := HM.out; omega, HL.out.on (hal.trans hk5)⟩
          case measure => simp [intOf]; omega
        · have hlp := Lib.hid (law_loop (HL.out.on hal) o false ⟨(fun h => by cases h), fun h => absurd h hlo⟩)
          have hdo := Lib.hid (fun (w5 : World) (hk5 : Keeps NoB wr w5) => law_do (HL.out.on hk5) (mass_len HM.out hk60.out) o hso.out.1 hso.out.2.1 hlo)
          have hm2 := Lib.hid (stepD_mass HL.out.pair.inv room o)
          clear hlo
          unfold LawDo at hdo
          unfold refV at hlp hdo
          generalize stepD d room o = d2 at *
          go_upto_region 15 with (first | (go_at_call 16; refine hlp.out.mono ?_; rintro e w5 ⟨rfl, hk5⟩; obtain hk5' := hal.trans hk5; have Y0 := (HL.out.on hk5').X0; have Y1 := (HL.out.on hk5').X1; have b0 := boxed hk5 0 _ rfl; have b1 := boxed hk5 1 _ rfl; have b2 := boxed hk5 2 _ rfl; have b3 := boxed hk5 3 _ rfl; have b4 := boxed hk5 4 _ rfl) | (go_at_call 17; refine (hdo.out _ hk5').mono ?_; rintro e w6 ⟨p', c', rfl, x0, x1, zx, hL6, hk6⟩; clear X0 X1 zX lX Y0 Y1 b0 b1 b2 b3 b4 c0 c1 c2 c3 c4 hk5 hk5' hk6))
          have HL6 := Lib.hid hL6
          clear hL6 x0 x1 zx hlp hdo hal
          generalize (w6.setCell ⟨w4.heap.size, 0, none⟩ (.slice p' d2.length c')).setCell ⟨w4.heap.size, 1, none⟩ (.int .i64 room) = w7 at *
          have h01 := HL6.out.pair.inv
          have h02 := HL6.out.pair.small
          have GU := Lib.hid (fun (wz : World) (hz : Keeps NoB w7 wz) => (HL6.out.on hz).pair.tells fun R lk up hR => used_any hR)
          have GC := Lib.hid (fun (wz : World) (hz : Keeps NoB w7 wz) => (HL6.out.on hz).pair.tells fun R lk up hR => count_any hR)
          have GR := Lib.hid (fun (wz : World) (hz : Keeps NoB w7 wz) => (HL6.out.on hz).pair.tells fun R lk up hR => room_any hR)
          have QU := Lib.hid (fun (wz : World) (hz : Keeps NoB w7 wz) => (HL6.out.on hz).pair.asks fun S hr => r4used_any (room := room) hr h01.zero (Nat.le_of_lt h01.two) h01 h02)
          have QC := Lib.hid (fun (wz : World) (hz : Keeps NoB w7 wz) => (HL6.out.on hz).pair.asks fun S hr => r4count_any (room := room) hr h01.zero (Nat.le_of_lt h01.two) h02)
          clear h01 h02
          generalize (used d2 : Int) = us at *
          unfold goInt at GC
          generalize (count d2 : Int) = cn at *
          unfold refV at QU QC
          go_cut [75] from 54 to 75 (fun x wx => x = .bool false ∧ Keeps NoB w7 wx)
          case first =>
            have zk := Keeps.refl NoB w7
            have z0 := HL6.out.X0
            have z1 := HL6.out.X1
            have zkd := zk.drew
            have z0d := (HL6.out.on zkd).X0
            have z1d := (HL6.out.on zkd).X1
            go_region_held3 (fun wz => wz.cell? ⟨w4.heap.size, 0, none⟩ = some (.slice p' d2.length c') ∧ wz.cell? ⟨w4.heap.size, 1, none⟩ = some (.int .i64 room) ∧ Keeps NoB w7 wz) (refine ⟨?_, ?_, ?_⟩ <;> assumption)
              (first | (go_at_call 13; refine (GU.out _ (by assumption)).mono ?_; rintro e wy ⟨rfl, rfl⟩) | (go_at_call 23; refine (GC.out _ (by assumption)).mono ?_; rintro e wy ⟨rfl, rfl⟩) | (go_at_call 33; refine (GR.out _ (by assumption)).mono ?_; rintro e wy ⟨rfl, rfl⟩) | (go_at_call 31; refine (QU.out _ (by assumption)).mono ?_; rintro e wy ⟨rfl, hky⟩; have zky : Keeps NoB w7 wy := Keeps.trans (by assumption) hky; have z0y := (HL6.out.on zky).X0; have z1y := (HL6.out.on zky).X1) | (go_at_call 32; refine (QC.out _ (by assumption)).mono ?_; rintro e wy2 ⟨rfl, hky2⟩; have zky2 : Keeps NoB w7 wy2 := Keeps.trans (by assumption) hky2; have z0y2 := (HL6.out.on zky2).X0; have z1y2 := (HL6.out.on zky2).X1))
            all_goals (go_wp2_with fail; go_meet; exact ⟨by simp, by assumption⟩)
          case rest =>
            obtain ⟨rfl, hk78⟩ := hcut
            go_wp2_with fail
            go_roundw
            case rel => exact ⟨k + 1, p', c', d2, by omega, by go_num, by have := HM.out; have := hm2.out; omega, HL6.out.on hk78⟩
            case measure => simp [intOf]; omega
      · obtain rfl : k = ops.length := by omega
        have hm122 := mass_122 HM.out (Nat.le_refl _) Hsm.out.2
        have hwl := wrap_len1 (mass_ge d) hm122
        have hln := Nat.le_trans (mass_ge d) hm122
        clear hm122 HM
        go_wp2
        go_loopw [11, 81] (fun _ i wx => ∃ n : Nat, n ≤ d.length + 1 ∧ i = .int .i64 n ∧ Keeps NoB wr wx) (fun _ i _ => d.length + 2 - (intOf i).toNat)
        case atStart => exact ⟨0, Nat.zero_le _, rfl, Keeps.refl _ _⟩
        case round =>
          rename_i wx
          obtain ⟨n, hn, rfl, hkx⟩ := hrel
          have Hkx := Lib.hid hkx
          have Y0 := (HL.out.on hkx).X0
          have Y1 := (HL.out.on hkx).X1
          have hno := Lib.hid (law_node (HL.out.on hkx) (n : Int))
          clear hkx X0 X1 zX lX
          unfold refV at hno
          by_cases hlt2 : n < d.length + 1
          · go_wp2_with (go_at_call 30; refine hno.out.mono ?_; rintro e w9 ⟨rfl, hk9⟩)
            go_roundw
            case rel => exact ⟨n + 1, by omega, by go_num, Hkx.out.trans hk9⟩
            case measure => simp [intOf]; omega
          · obtain rfl : n = d.length + 1 := by omega
            go_wp2
            go_ret
            exact ⟨rfl, HL.out.keeps.trans Hkx.out⟩

theorem wf_max {n : Int} (h : (Lit.int .i64 n).wf = true) : n ≤ 9223372036854775807 := by
  simp only [Lit.wf, IntKind.min, IntKind.max, IntKind.signed, IntKind.bits, Bool.and_eq_true, decide_eq_true_eq, if_true] at h
  omega

end Go.Proofs.Ytbcejodnjeklpaa
