/-
  DiskReads: the walk.
-/
import Derived.Test.YtbcejodnjeklpaaA23

set_option linter.unusedSimpArgs false
set_option linter.unusedVariables false

namespace Go.Proofs.Ytbcejodnjeklpaa
open Go.RowKit
set_option maxRecDepth 100000
set_option maxHeartbeats 2000000

theorem anchor_call (w : World) : Calls Try.prog 8 #[] w fun e w' => e = .returned (.bool true) ∧ Keeps NoB w w' := anchor4_any w

theorem small_says {S : Nat → Prop} {w : World} {p : Option Addr} {c : Nat} {l : List Op4} (h : SlAt encOp4 S w p c l) (b : Bool) (hb : b = true ↔ Small l) :
    Calls Try.prog 14 #[.slice p l.length c] w fun e w' => e = .returned (.bool b) ∧ Keeps NoB w w' :=
  (small_any h).mono (by
    rintro e w' ⟨b', rfl, h1, h2⟩
    have : b' = b := by rw [Bool.eq_iff_iff, h1, hb]
    rw [this]
    exact ⟨rfl, h2⟩)

theorem mass_len {d : Nds} {k : Nat} (h : mass d ≤ 2 + 2 * k) (hk : k ≤ 60) : mass d + 2 ≤ 2147483648 := by omega

theorem reads_any (W : World) (p : Option Addr) (c : Nat) (ops : List Op4) (h : SlAt encOp4 (fun g => g < W.heap.size) W p c ops) (id x y : Int) (name : ByteArray) :
    Calls Try.prog 5 #[.slice p ops.length c, .int .i64 id, .int .i64 x, .int .i64 y, .string name] W fun e w' => TrueEnd W w' e := by
  have hcap := h.cap
  have hmax := h.max
  unfold maxLen at hmax
  by_cases hsm : Small ops
  case neg =>
    have HS := Lib.hid (fun (w1 : World) (hk : Keeps NoB W w1) => small_says (h.keepN hk) false ⟨(fun h => by cases h), fun h => absurd h hsm⟩)
    clear hsm
    go_enter Try.func5, Try.ntmps5
    go_wp2_with (first | (go_at_call 8; refine (anchor_call _).mono ?_; rintro e w1 ⟨rfl, hk1⟩) | (go_at_call 9; refine (new_ok _ 1048576 (by decide) (by decide)).mono ?_; rintro e w2 ⟨a, rfl, h2⟩; have hk2 := hk1.trans h2.keeps) | (go_at_call 14; refine (HS.out _ hk2).mono ?_; rintro e w3 ⟨rfl, hk3⟩))
    go_ret
    exact ⟨rfl, hk2.trans hk3⟩
  case pos =>
    have HS := Lib.hid (fun (w1 : World) (hk : Keeps NoB W w1) => small_says (h.keepN hk) true ⟨fun _ => hsm, fun _ => rfl⟩)
    have Hsm := Lib.hid hsm
    clear hsm
    go_enter Try.func5, Try.ntmps5
    go_wp2_with (first | (go_at_call 8; refine (anchor_call _).mono ?_; rintro e w1 ⟨rfl, hk1⟩) | (go_at_call 9; refine (new_ok _ 1048576 (by decide) (by decide)).mono ?_; rintro e w2 ⟨a, rfl, h2⟩; replace h2 := h2.base hk1; have hk2 := h2.keeps) | (go_at_call 14; refine (HS.out _ hk2).mono ?_; rintro e w3 ⟨rfl, hk3⟩; replace h2 := h2.on hk3) | (go_at_call 15; refine (pair_new h2).mono ?_; rintro e w4 ⟨p4, c4, rfl, hp4, hk4⟩; have hst := LawAt.start hp4 hk4 39; unfold refV))
    have Hst := Lib.hid hst
    clear hst hp4 hk4 h2 hk1 hk2 hk3
    go_loopw [50] (fun i wr => ∃ (k : Nat) (pr : Option Addr) (cr : Nat) (d : Nds), k ≤ ops.length ∧ i = .int .i64 k ∧ mass d ≤ 2 + 2 * k ∧ LawAt W wr w4.heap.size a pr cr d 1048576) (fun i _ => ops.length - (intOf i).toNat)
    case atStart => exact ⟨0, p4, c4, newD, Nat.zero_le _, rfl, by rw [mass_new]; decide, Hst.out⟩
    case round =>
      rename_i wr
      obtain ⟨k, pr, cr, d, hk, rfl, hms, hL⟩ := hrel
      have HL := Lib.hid hL
      have HM := Lib.hid hms
      have X0 := hL.X0
      have X1 := hL.X1
      have zX := hL.zX
      have lX := hL.lt
      clear hL hms Hst
      by_cases hlt : k < ops.length
      · obtain ⟨o, hx⟩ : ∃ o, ops[k]? = some o := ⟨_, List.getElem?_eq_getElem hlt⟩
        obtain ⟨g, off, rfl, hS, hg, c0, c1, c2, c3, c4⟩ := (h.keepN HL.out.keeps).op4 hx
        have hso := Lib.hid (Hsm.out.1 o (List.mem_of_getElem? hx))
        have hk60 := Lib.hid (Nat.le_trans hk Hsm.out.2)
        clear hx
        have hal : Keeps NoB wr (wr.alloc (.cells #[.int .i64 o.kind, .int .i64 o.a, .int .i64 o.b, .string o.s, .string o.t] 31)) := (Keeps.refl _ _).alloc _
        by_cases hlo : LoopP d o
        · have hlp := Lib.hid (law_loop (HL.out.on hal) o true ⟨fun _ => hlo, fun _ => rfl⟩)
          clear hlo
          unfold refV at hlp
          go_wp2_with (go_at_call 16; refine hlp.out.mono ?_; rintro e w5 ⟨rfl, hk5⟩)
          go_roundw
          case rel => exact ⟨k + 1, pr, cr, d, by omega, by go_num, by have := HM.out; omega, HL.out.on (hal.trans hk5)⟩
          case measure => simp [intOf]; omega
        · have hlp := Lib.hid (law_loop (HL.out.on hal) o false ⟨(fun h => by cases h), fun h => absurd h hlo⟩)
          have hdo := Lib.hid (fun (w5 : World) (hk5 : Keeps NoB wr w5) => law_do (HL.out.on hk5) (mass_len HM.out hk60.out) o hso.out.1 hso.out.2.1 hlo)
          have hm2 := Lib.hid (stepD_mass HL.out.pair.inv 1048576 o)
          clear hlo
          unfold LawDo at hdo
          unfold refV at hlp hdo
          go_wp2_with (first | (go_at_call 16; refine hlp.out.mono ?_; rintro e w5 ⟨rfl, hk5⟩; obtain hk5' := hal.trans hk5; have Y0 := (HL.out.on hk5').X0; have Y1 := (HL.out.on hk5').X1; have b0 := boxed hk5 0 _ rfl; have b1 := boxed hk5 1 _ rfl; have b2 := boxed hk5 2 _ rfl; have b3 := boxed hk5 3 _ rfl; have b4 := boxed hk5 4 _ rfl) | (go_at_call 17; refine (hdo.out _ hk5').mono ?_; rintro e w6 ⟨p', c', rfl, x0, x1, zx, hL6, hk6⟩))
          go_roundw
          case rel => exact ⟨k + 1, p', c', stepD d 1048576 o, by omega, by go_num, by have := HM.out; have := hm2.out; omega, hL6⟩
          case measure => simp [intOf]; omega
      · obtain rfl : k = ops.length := by omega
        have hI := HL.out.pair.inv
        have hsd := HL.out.pair.small
        have hr1 := Lib.hid (HL.out.pair.tells fun R lk up hR => read_any hR id x y (by
          unfold dataOf
          split
          · decide
          · split
            · decide
            · exact (hI.node id).data))
        have hr2 := Lib.hid (HL.out.pair.asks fun S hr => r4read_any (room := 1048576) hr hI id x y)
        have hr3 := Lib.hid (fun (w5 : World) (hk5 : Keeps NoB wr w5) => (HL.out.on hk5).pair.tells fun R lk up hR => look_any hR id name (nd_ents_len hsd id))
        have hr4 := Lib.hid (fun (w5 : World) (hk5 : Keeps NoB wr w5) => (HL.out.on hk5).pair.asks fun S hr => r4look_any (room := 1048576) hr hI id name)
        clear hI hsd
        generalize readOf d id x y = ro at *
        generalize readErr d id x y = re at *
        generalize lookOf d id name = lo at *
        generalize lookErr d id name = le at *
        have hbb : (ro.toList == ro.toList) = true := by rw [toList_eq]; simp
        unfold refV at hr2 hr4
        go_wp2_with (first | (go_at_call 24; refine hr1.out.mono ?_; rintro e w5 ⟨rfl, rfl⟩) | (go_at_call 25; refine hr2.out.mono ?_; rintro e w6 ⟨rfl, hk6⟩) | (go_at_call 26; refine (hr3.out _ hk6).mono ?_; rintro e w7 ⟨rfl, hk7⟩; have hk7' := hk6.trans hk7; have Y0 := (HL.out.on hk7').X0; have Y1 := (HL.out.on hk7').X1) | (go_at_call 27; refine (hr4.out _ hk7').mono ?_; rintro e w8 ⟨rfl, hk8⟩))
        go_ret
        exact ⟨rfl, HL.out.keeps.trans (hk7'.trans hk8)⟩

end Go.Proofs.Ytbcejodnjeklpaa
