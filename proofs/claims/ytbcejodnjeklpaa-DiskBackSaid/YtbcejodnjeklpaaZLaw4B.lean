/-
  DiskBack: the walk.
-/
import Derived.Test.YtbcejodnjeklpaaZLaw4N
import Derived.Test.YtbcejodnjeklpaaZLaw4R
import Derived.Test.YtbcejodnjeklpaaZDiskQ7

set_option linter.unusedSimpArgs false
set_option linter.unusedVariables false

namespace Go.Proofs.Ytbcejodnjeklpaa
open Go.RowKit
set_option maxRecDepth 100000
set_option maxHeartbeats 2000000

/-- A law holds two disks that may differ. -/
structure LawTwo (W w : World) (X a : Nat) (dp : Nds) (p : Option Addr) (c : Nat) (d : Nds) (room : Int) : Prop where
  pair : Pair (fun g => g < W.heap.size ∨ g = X) w a dp p c d room
  X0 : w.cell? ⟨X, 0, none⟩ = some (.slice p d.length c)
  X1 : w.cell? ⟨X, 1, none⟩ = some (.int .i64 room)
  zX : ∀ j, w.frozen? ⟨X, j, none⟩ = false
  keeps : Keeps NoB W w
  new : W.heap.size ≤ X

section
variable {W w w' : World} {X a : Nat} {p : Option Addr} {c : Nat} {d dp : Nds} {room : Int}

theorem LawAt.two (h : LawAt W w X a p c d room) : LawTwo W w X a d p c d room := ⟨h.pair, h.X0, h.X1, h.zX, h.keeps, h.new⟩
theorem LawTwo.one (h : LawTwo W w X a d p c d room) : LawAt W w X a p c d room := ⟨h.pair, h.X0, h.X1, h.zX, h.keeps, h.new⟩

/-- A call of the program's disk alone. -/
theorem LawTwo.prog {d' : Nds} {v : Value} {f : Nat} {args : Array Value} (h : LawTwo W w X a dp p c d room) (hc : ∀ N, Pair N w a dp p c d room → Calls Try.prog f args w (PTo N w a d' p c d room v)) :
    Calls Try.prog f args w fun e w' => e = .returned v ∧ LawTwo W w' X a d' p c d room := by
  refine (hc _ h.pair).mono ?_
  rintro e w' ⟨rfl, hp, hk⟩
  have hlt := lt_of_cell h.X0
  exact ⟨rfl, hp, (hk.cell (p := ⟨X, 0, none⟩) hlt (fun h => h (.inr rfl))).trans h.X0, (hk.cell (p := ⟨X, 1, none⟩) hlt (fun h => h (.inr rfl))).trans h.X1, fun j => (hk.frozen (p := ⟨X, j, none⟩) hlt (fun h => h (.inr rfl))).trans (h.zX j),
    h.keeps.step hk (fun b hb => .inr (Nat.le_of_not_lt (fun hl => hb (.inl hl)))), h.new⟩

end

theorem mass_122b {m k n : Nat} (h : m ≤ 2 + 2 * k) (hk : k ≤ n) (hn : n ≤ 60) : m ≤ 122 := by omega

theorem back_any (W : World) (p : Option Addr) (c : Nat) (ops : List Op4) (h : SlAt encOp4 (fun g => g < W.heap.size) W p c ops) (f : Int) (name : ByteArray) (t : Int) (other : ByteArray) :
    Calls Try.prog 6 #[.slice p ops.length c, .int .i64 f, .string name, .int .i64 t, .string other] W fun e w' => TrueEnd W w' e := by
  have hcap := h.cap
  have hmax := h.max
  unfold maxLen at hmax
  by_cases hsm : Small ops
  case neg =>
    have HS := Lib.hid (fun (w1 : World) (hk : Keeps NoB W w1) => small_says (h.keepN hk) false ⟨(fun h => by cases h), fun h => absurd h hsm⟩)
    clear hsm
    go_enter Try.func6, Try.ntmps6
    go_wp2_with (first | (go_at_call 8; refine (anchor_call _).mono ?_; rintro e w1 ⟨rfl, hk1⟩) | (go_at_call 9; refine (new_ok _ 1048576 (by decide) (by decide)).mono ?_; rintro e w2 ⟨a, rfl, h2⟩; have hk2 := hk1.trans h2.keeps) | (go_at_call 14; refine (HS.out _ hk2).mono ?_; rintro e w3 ⟨rfl, hk3⟩))
    go_ret
    exact ⟨rfl, hk2.trans hk3⟩
  case pos =>
  have HS := Lib.hid (fun (w1 : World) (hk : Keeps NoB W w1) => small_says (h.keepN hk) true ⟨fun _ => hsm, fun _ => rfl⟩)
  have Hsm := Lib.hid hsm
  clear hsm
  by_cases n1 : 300 < name.size
  · have n1' : (300 : Int) < (name.size : Int) := by omega
    go_enter Try.func6, Try.ntmps6
    go_wp2_with (first | (go_at_call 8; refine (anchor_call _).mono ?_; rintro e w1 ⟨rfl, hk1⟩) | (go_at_call 9; refine (new_ok _ 1048576 (by decide) (by decide)).mono ?_; rintro e w2 ⟨a, rfl, h2⟩; have hk2 := hk1.trans h2.keeps) | (go_at_call 14; refine (HS.out _ hk2).mono ?_; rintro e w3 ⟨rfl, hk3⟩))
    go_ret
    exact ⟨rfl, hk2.trans hk3⟩
  have n1' : ¬ ((300 : Int) < (name.size : Int)) := by omega
  by_cases n2 : 300 < other.size
  · have n2' : (300 : Int) < (other.size : Int) := by omega
    go_enter Try.func6, Try.ntmps6
    go_wp2_with (first | (go_at_call 8; refine (anchor_call _).mono ?_; rintro e w1 ⟨rfl, hk1⟩) | (go_at_call 9; refine (new_ok _ 1048576 (by decide) (by decide)).mono ?_; rintro e w2 ⟨a, rfl, h2⟩; have hk2 := hk1.trans h2.keeps) | (go_at_call 14; refine (HS.out _ hk2).mono ?_; rintro e w3 ⟨rfl, hk3⟩))
    go_ret
    exact ⟨rfl, hk2.trans hk3⟩
  have n2' : ¬ ((300 : Int) < (other.size : Int)) := by omega
  have HN1 : Hid (name.size ≤ 4294967296) := by show name.size ≤ 4294967296; omega
  have HN2 : Hid (other.size ≤ 4294967296) := by show other.size ≤ 4294967296; omega
  clear n1 n2
  go_enter Try.func6, Try.ntmps6
  go_wp2_with (first | (go_at_call 8; refine (anchor_call _).mono ?_; rintro e w1 ⟨rfl, hk1⟩) | (go_at_call 9; refine (new_ok _ 1048576 (by decide) (by decide)).mono ?_; rintro e w2 ⟨a, rfl, h2⟩; replace h2 := h2.base hk1; have hk2 := h2.keeps) | (go_at_call 14; refine (HS.out _ hk2).mono ?_; rintro e w3 ⟨rfl, hk3⟩; replace h2 := h2.on hk3) | (go_at_call 15; refine (pair_new h2).mono ?_; rintro e w4 ⟨p4, c4, rfl, hp4, hk4⟩; have hst := LawAt.start hp4 hk4 39; unfold refV))
  have Hst := Lib.hid hst
  clear hst hp4 hk4 h2 hk1 hk2 hk3
  go_loopw [57] (fun i wr => ∃ (k : Nat) (pr : Option Addr) (cr : Nat) (d : Nds), k ≤ ops.length ∧ i = .int .i64 k ∧ mass d ≤ 2 + 2 * k ∧ LawAt W wr w4.heap.size a pr cr d 1048576) (fun i _ => ops.length - (intOf i).toNat)
  case atStart => exact ⟨0, p4, c4, newD, Nat.zero_le _, rfl, by rw [mass_new]; decide, Hst.out⟩
  case round =>
    rename_i wr
    obtain ⟨k, pr, cr, d, hk, rfl, hms, hL⟩ := hrel
    have HL := Lib.hid hL
    have HM := Lib.hid hms
    have X0 := hL.X0
    have X1 := hL.X1
    have zX := hL.zX
    have lX := hL.lt
    clear hL hms Hst
    by_cases hlt : k < ops.length
    · obtain ⟨o, hx⟩ : ∃ o, ops[k]? = some o := ⟨_, List.getElem?_eq_getElem hlt⟩
      obtain ⟨g, off, rfl, hS, hg, c0, c1, c2, c3, c4⟩ := (h.keepN HL.out.keeps).op4 hx
      have hso := Lib.hid (Hsm.out.1 o (List.mem_of_getElem? hx))
      have hk60 := Lib.hid (Nat.le_trans hk Hsm.out.2)
      clear hx
      have hal : Keeps NoB wr (wr.alloc (.cells #[.int .i64 o.kind, .int .i64 o.a, .int .i64 o.b, .string o.s, .string o.t] 31)) := (Keeps.refl _ _).alloc _
      by_cases hlo : LoopP d o
      · have hlp := Lib.hid (law_loop (HL.out.on hal) o true ⟨fun _ => hlo, fun _ => rfl⟩)
        clear hlo
        unfold refV at hlp
        go_wp2_with (go_at_call 16; refine hlp.out.mono ?_; rintro e w5 ⟨rfl, hk5⟩)
        go_roundw
        case rel => exact ⟨k + 1, pr, cr, d, by omega, by go_num, by have := HM.out; omega, HL.out.on (hal.trans hk5)⟩
        case measure => simp [intOf]; omega
      · have hlp := Lib.hid (law_loop (HL.out.on hal) o false ⟨(fun h => by cases h), fun h => absurd h hlo⟩)
        have hdo := Lib.hid (fun (w5 : World) (hk5 : Keeps NoB wr w5) => law_do (HL.out.on hk5) (mass_len HM.out hk60.out) o hso.out.1 hso.out.2.1 hlo)
        have hm2 := Lib.hid (stepD_mass HL.out.pair.inv 1048576 o)
        clear hlo
        unfold LawDo at hdo
        unfold refV at hlp hdo
        go_wp2_with (first | (go_at_call 16; refine hlp.out.mono ?_; rintro e w5 ⟨rfl, hk5⟩; obtain hk5' := hal.trans hk5; have Y0 := (HL.out.on hk5').X0; have Y1 := (HL.out.on hk5').X1; have b0 := boxed hk5 0 _ rfl; have b1 := boxed hk5 1 _ rfl; have b2 := boxed hk5 2 _ rfl; have b3 := boxed hk5 3 _ rfl; have b4 := boxed hk5 4 _ rfl) | (go_at_call 17; refine (hdo.out _ hk5').mono ?_; rintro e w6 ⟨p', c', rfl, x0, x1, zx, hL6, hk6⟩))
        go_roundw
        case rel => exact ⟨k + 1, p', c', stepD d 1048576 o, by omega, by go_num, by have := HM.out; have := hm2.out; omega, hL6⟩
        case measure => simp [intOf]; omega
    · obtain rfl : k = ops.length := by omega
      have hI := HL.out.pair.inv
      have hcl := HL.out.pair.clean
      have hsd := HL.out.pair.small
      have hfit : (used d : Int) ≤ 1048576 := by obtain ⟨R, hR, _⟩ := HL.out.pair.both; exact hR.fits
      have hr4 := Lib.hid (HL.out.pair.asks fun S hr => r4look_any (room := 1048576) hr hI t other)
      have hq := Lib.hid (fun (wz : World) (hz : Keeps NoB wr wz) => q_move (HL.out.on hz).pair hI hcl hsd f name t other (Nat.le_trans HN2.out (by decide)))
      have hp1 := Lib.hid (fun (wz : World) (hz : Keeps NoB wr wz) => (HL.out.on hz).two.prog fun N hN => p_move hN f name t other HN2.out)
      unfold QTo at hq
      unfold refV at hr4 hq
      by_cases l0 : lookErr d t other = 0
      · rw [l0] at hr4
        clear hI hcl hsd hfit l0
        generalize lookOf d t other = lo at *
        go_wp2_with (go_at_call 27; refine hr4.out.mono ?_; rintro e w5 ⟨rfl, hk5⟩)
        go_ret
        exact ⟨rfl, HL.out.keeps.trans hk5⟩
      by_cases m0 : moveErr d 1048576 f name t other = 0
      case neg =>
        clear hI hcl hsd hfit
        generalize lookErr d t other = le at *
        generalize lookOf d t other = lo at *
        generalize moveErr d 1048576 f name t other = me at *
        generalize moveD d 1048576 f name t other = md at *
        go_wp2_with (first | (go_at_call 27; refine hr4.out.mono ?_; rintro e w5 ⟨rfl, hk5⟩; have Y0 := (HL.out.on hk5).X0; have Y1 := (HL.out.on hk5).X1) | (go_at_call 28; refine (hq.out _ hk5).mono ?_; rintro e w6 ⟨p6, c6, rfl, hp6, hk6⟩; have hk6' := (hk5.trans hk6).alloc (.cells #[.slice p6 md.length c6, .int .i64 1048576] 39)) | (go_at_call 29; refine (hp1.out _ hk6').mono ?_; rintro e w7 ⟨rfl, hL7⟩))
        go_ret
        exact ⟨rfl, hL7.keeps⟩
      case pos =>
        obtain ⟨b0, b1⟩ := move_back hI hcl hfit m0 l0
        have hp2 := Lib.hid (fun (wz : World) (hz : LawTwo W wz w4.heap.size a (moveD d 1048576 f name t other) pr cr d 1048576) => hz.prog fun N hN => p_move hN t other f name HN1.out)
        rw [b0, b1] at hp2
        rw [m0] at hq hp1
        have hm122 := Nat.le_trans (mass_ge d) (mass_122b HM.out (Nat.le_refl _) Hsm.out.2)
        have hus := Lib.hid (fun (wz : World) (hz : LawAt W wz w4.heap.size a pr cr d 1048576) => hz.pair.tells fun R lk up hR => used_any hR)
        have hur := Lib.hid (fun (wz : World) (hz : LawAt W wz w4.heap.size a pr cr d 1048576) => hz.pair.asks fun S hr => r4used_any (room := 1048576) hr hI.zero (Nat.le_of_lt hI.two) hI hsd)
        clear hI hcl hsd hfit b0 b1 m0
        generalize lookErr d t other = le at *
        generalize lookOf d t other = lo at *
        generalize moveD d 1048576 f name t other = md at *
        generalize (used d : Int) = us at *
        unfold refV at hur
        go_wp2_with (first | (go_at_call 27; refine hr4.out.mono ?_; rintro e w5 ⟨rfl, hk5⟩; have Y0 := (HL.out.on hk5).X0; have Y1 := (HL.out.on hk5).X1) | (go_at_call 28; refine (hq.out _ hk5).mono ?_; rintro e w6 ⟨p6, c6, rfl, hp6, hk6⟩; have hk6' := (hk5.trans hk6).alloc (.cells #[.slice p6 md.length c6, .int .i64 1048576] 39)) | (go_at_call 29; have HX := hp1; clear hp1; refine (HX.out _ hk6').mono ?_; clear HX; rintro e w7 ⟨rfl, hL7⟩) | (go_at_call 29; refine (hp2.out _ hL7).mono ?_; rintro e w8 ⟨rfl, hL8⟩; have hL8' := hL8.one; have V0 := hL8'.X0; have V1 := hL8'.X1; clear hp2 Y0 Y1))
        have HL8 := Lib.hid hL8'
        clear hL7 hL8 hL8' hk5 hk6 hk6' hp6 hq hr4 X0 X1 zX lX
        go_loopw [20, 120] (fun _ i wx => ∃ n : Nat, n ≤ d.length ∧ i = .int .i64 n ∧ Keeps NoB w8 wx) (fun _ i _ => d.length + 1 - (intOf i).toNat)
        case atStart => exact ⟨0, Nat.zero_le _, rfl, Keeps.refl _ _⟩
        case round =>
          rename_i wq
          obtain ⟨n, hn, rfl, hkx⟩ := hrel
          have Hkx := Lib.hid hkx
          have hL9 := HL8.out.on hkx
          have Z0 := hL9.X0
          have Z1 := hL9.X1
          have hno := Lib.hid (law_node hL9 (n : Int))
          have HL9 := Lib.hid hL9
          clear hkx V0 V1 hL9
          unfold refV at hno
          by_cases hlt2 : n < d.length
          · go_wp2_with (go_at_call 30; refine hno.out.mono ?_; rintro e w9 ⟨rfl, hk9⟩)
            go_roundw
            case rel => exact ⟨n + 1, by omega, by go_num, Hkx.out.trans hk9⟩
            case measure => simp [intOf]; omega
          · obtain rfl : n = d.length := by omega
            go_upto_region 27 with (fail)
            go_cut [10] from 129 to 133 (fun x wz => x = .bool true ∧ LawAt W wz w4.heap.size a pr cr d 1048576)
            case first =>
              have z := HL9.out
              have zd := z.on (Keeps.refl NoB _).drew
              have z0d := zd.X0
              have z1d := zd.X1
              go_region_held3 (fun wz => wz.cell? ⟨w4.heap.size, 0, none⟩ = some (.slice pr d.length cr) ∧ wz.cell? ⟨w4.heap.size, 1, none⟩ = some (.int .i64 1048576) ∧ LawAt W wz w4.heap.size a pr cr d 1048576) (refine ⟨?_, ?_, ?_⟩ <;> assumption)
                (first | (go_at_call 13; refine (hus.out _ (by assumption)).mono ?_; rintro e wy ⟨rfl, rfl⟩) | (go_at_call 31; refine (hur.out _ (by assumption)).mono ?_; rintro e wy ⟨rfl, hky⟩; have zky := LawAt.on (W := W) (X := w4.heap.size) (a := a) (p := pr) (c := cr) (d := d) (room := 1048576) (by assumption) hky; have z0y := zky.X0; have z1y := zky.X1))
              all_goals (go_wp2_with fail; go_meet; exact ⟨by simp, by assumption⟩)
            case rest =>
              obtain ⟨rfl, hL10⟩ := hcut
              go_wp2_with fail
              go_ret
              exact ⟨rfl, hL10.keeps⟩

end Go.Proofs.Ytbcejodnjeklpaa
