/-
  DiskRoom: the walk.
-/
import Derived.Test.YtbcejodnjeklpaaZLaw4M

set_option linter.unusedSimpArgs false
set_option linter.unusedVariables false

namespace Go.Proofs.Ytbcejodnjeklpaa
open Go.RowKit
set_option maxRecDepth 100000
set_option maxHeartbeats 2000000

theorem hb_step {d d' : Nds} {k : Nat} (h : HB d (k : Int)) (hs : ∀ j, (nd d' j).holds ≤ (nd d j).holds + 1) : HB d' ((k + 1 : Nat) : Int) := fun j => by
  have h1 := h j
  have h2 := hs j
  omega
theorem hb_60 {d : Nds} {k n : Nat} (h : HB d (k : Int)) (hk : k ≤ n) (hn : n ≤ 60) : HB d 60 := fun j => by have := h j; omega
theorem hb_new : HB newD ((0 : Nat) : Int) := fun j => by rw [nd_new]; split <;> decide
theorem mass_one {d : Nds} (h : smallD d) (hm : mass d ≤ 122) : mass d + 1 ≤ 2147483648 := by omega

/-- Release makes nothing bigger. -/
theorem stepD_mass_rel {d : Nds} (hI : DInv d) (i : Int) : mass (relD d i) ≤ mass d := by
  unfold relD
  split
  · next he =>
    have hi : has d i ∧ (nd d i).holds ≠ 0 := by
      unfold relErr at he
      split at he; · cases he
      split at he; · cases he
      next a b => exact ⟨a, b⟩
    have h0 := (hI.node i).holds
    have h1 := mass_upd (n := (nd d i).setHolds ((nd d i).holds - 1)) hi.1
    have h2 : mass1 ((nd d i).setHolds ((nd d i).holds - 1)) ≤ mass1 (nd d i) := by unfold mass1; simp only [Nd.setHolds]; omega
    have h3 := gc_mass (relTo d i)
    unfold relTo at *
    omega
  · exact Nat.le_refl _

theorem law_rel {W w : World} {X a : Nat} {p : Option Addr} {c : Nat} {d : Nds} {room : Int} (h : LawAt W w X a p c d room) (i : Int) : ∀ wz, Keeps NoB w wz →
    Calls Try.prog 19 #[.pointer (some ⟨a, 0, none⟩), .int .i64 i] wz fun e w' => e = .returned (.int .i64 (relErr d i)) ∧ LawN (fun g => g < W.heap.size ∨ g = X) W w' X a (relD d i) p c d room ∧ Keeps (fun g => ¬ (g < W.heap.size ∨ g = X)) wz w' :=
  fun wz hz => (h.on hz).gen.prog fun hp => p_rel hp i

/-- The row of a node, in a law. -/
theorem law_row {W w : World} {X a : Nat} {p : Option Addr} {c : Nat} {d : Nds} {room : Int} (h : LawAt W w X a p c d room) {m : Nat} (hm : m < d.length) :
    ∃ (S : Nat → Prop) (g off : Nat) (q : Option Addr) (mm : Nat), p = some ⟨g, off, none⟩ ∧ RowAt S w g off m (nd d (m : Int)) q mm := by
  obtain ⟨R, h1, h2, h3⟩ := h.pair.both
  obtain ⟨g, off, q, mm, hp, _, hr⟩ := h3.rowAt hm
  exact ⟨_, g, off, q, mm, hp, hr⟩

/-- A row of entries beside both disks. -/
def NV (W : World) (X : Nat) (v : Value) : Nat → Prop := fun g => (g < W.heap.size ∨ g = X) ∨ v.ownBlock = some g

theorem law_into {W w w5 : World} {X a : Nat} {p : Option Addr} {c : Nat} {d : Nds} {room : Int} (h : LawAt W w X a p c d room) (k : Keeps NoB w w5) {v : Value} (hv : ∀ g, v.ownBlock = some g → w.heap.size ≤ g ∧ g < w5.heap.size) :
    LawN (NV W X v) W w5 X a d p c d room ∧ ∀ g, v.ownBlock = some g → g ≠ X := by
  have h' := h.on k
  have := h.lt
  exact ⟨⟨h.pair.grow k (fun x hx => by rcases hx with h1 | h1; exact .inl h1; exact .inr (hv x h1)), fun g hg => .inl hg, h'.X0, h'.X1, h'.zX, h'.keeps, h'.new⟩, fun g hg e => by have := (hv g hg).1; omega⟩

/-- Leave of both, by a name that lies in a variable. -/
def LeaveIn (W w w6 : World) (X a : Nat) (p : Option Addr) (c : Nat) (d : Nds) (room : Int) (v : Value) (m : Int) (nm : ByteArray) : Prop :=
  Calls Try.prog 22 #[.agg #[.slice p d.length c, .int .i64 room], .int .i64 m, .string nm] w6 fun e w7 => ∃ p' c', e = .returned (.tuple #[.agg #[.slice p' d.length c', .int .i64 room], .int .i64 (leaveErr d m nm)]) ∧
    w7.cell? ⟨X, 0, none⟩ = some (.slice p d.length c) ∧ w7.cell? ⟨X, 1, none⟩ = some (.int .i64 room) ∧ (∀ j, w7.frozen? ⟨X, j, none⟩ = false) ∧
    LawN (NV W X v) W ((w7.setCell ⟨X, 0, none⟩ (.slice p' d.length c')).setCell ⟨X, 1, none⟩ (.int .i64 room)) X a (leaveTo d m nm) p' c' (leaveTo d m nm) room ∧
    ∀ l, Own encEnt 52 (fun _ => True) w v l → Own encEnt 52 (fun _ => True) ((w7.setCell ⟨X, 0, none⟩ (.slice p' d.length c')).setCell ⟨X, 1, none⟩ (.int .i64 room)) v l

theorem law_leave {W w : World} {X a : Nat} {p : Option Addr} {c : Nat} {d : Nds} {room : Int} {v : Value} (h : LawN (NV W X v) W w X a d p c d room) (hv : ∀ g, v.ownBlock = some g → g ≠ X) (m : Int) (x : Ent) :
    Calls Try.prog 21 #[.pointer (some ⟨a, 0, none⟩), .int .i64 m, .string x.1] (w.alloc (.cells #[.string x.1, .int .i64 x.2] 52)) fun e w6 =>
      e = .returned (.int .i64 (leaveErr d m x.1)) ∧ w6.cell? ⟨w.heap.size, 0, none⟩ = some (.string x.1) ∧ w6.cell? ⟨X, 0, none⟩ = some (.slice p d.length c) ∧ w6.cell? ⟨X, 1, none⟩ = some (.int .i64 room) ∧ LeaveIn W w w6 X a p c d room v m x.1 := by
  have k1 : Keeps NoB w (w.alloc (.cells #[.string x.1, .int .i64 x.2] 52)) := (Keeps.refl _ _).alloc _
  have h1 : LawN (fun g => NV W X v g ∨ g = w.heap.size) W (w.alloc (.cells #[.string x.1, .int .i64 x.2] 52)) X a d p c d room := by
    have h' := h.on k1
    exact ⟨h.pair.grow k1 (fun g hg => by rcases hg with e | e; exact .inl e; exact .inr ⟨by omega, by rw [e]; simp⟩), fun g hg => .inl (h.low g hg), h'.X0, h'.X1, h'.zX, h'.keeps, h'.new⟩
  have hI := h.pair.inv
  have hcl := h.pair.clean
  have hs := h.pair.small
  have b0 : (w.alloc (.cells #[.string x.1, .int .i64 x.2] 52)).cell? ⟨w.heap.size, 0, none⟩ = some (.string x.1) := boxed (Keeps.refl NoB _) 0 _ rfl
  refine (h1.prog fun hp => p_leave hp m x.1).mono ?_
  rintro e w6 ⟨rfl, h2, hk⟩
  refine ⟨rfl, (hk.cell (p := ⟨w.heap.size, 0, none⟩) (lt_of_cell b0) (fun h => h (.inr rfl))).trans b0, h2.X0, h2.X1, (h2.ref fun hp => q_leave hp hI hcl hs m x.1).mono ?_⟩
  rintro e w7 ⟨p', c', rfl, x0, x1, zx, h3, hk7⟩
  rw [leave_length] at h3 hk7
  refine ⟨p', c', by unfold refV; rw [leave_length], x0, x1, zx, ⟨h3.pair.less (fun g hg => .inl hg), fun g hg => h.low g hg, h3.X0, h3.X1, h3.zX, h3.keeps, h3.new⟩, fun l ho => ?_⟩
  exact ((ho.keep k1 (fun _ _ h => h)).keep hk (fun g hg hN => hN (.inl (.inr hg)))).keep hk7 (fun g hg => hv g hg)

/-- Both disks' Has, in a law. -/
theorem law_has {W w : World} {X a : Nat} {p : Option Addr} {c : Nat} {d : Nds} {room : Int} (h : LawAt W w X a p c d room) (i : Int) :
    Calls Try.prog 18 #[.agg #[.slice p d.length c, .int .i64 room], .int .i64 i] w fun e w' => e = .returned (.bool (decide (has d i))) ∧ Keeps NoB w w' :=
  h.pair.asks fun S hr => r4has_any (room := room) hr h.pair.inv.zero i

theorem hz_leave {d : Nds} (hI : DInv d) (hh : ∀ j, (nd d j).holds = 0) (i : Int) (nm : ByteArray) (hI2 : DInv (leaveTo d i nm)) : ∀ j, (nd (leaveTo d i nm) j).holds = 0 := fun j => by
  have h1 := leave_holds hI i nm j
  have h2 := hh j
  have h3 := (hI2.node j).holds
  omega

theorem rooms_any (W : World) (room : Int) (hr2 : room ≤ 9223372036854775807) (p : Option Addr) (c : Nat) (ops : List Op4) (h : SlAt encOp4 (fun g => g < W.heap.size) W p c ops) :
    Calls Try.prog 4 #[.int .i64 room, .slice p ops.length c] W fun e w' => TrueEnd W w' e := by
  have hcap := h.cap
  have hmax := h.max
  unfold maxLen at hmax
  by_cases hr : room < 0
  · have HN := Lib.hid (fun (w1 : World) => (new_any w1 room hr2).mono (R' := fun e w' => e = .returned (.tuple #[.pointer none, .int .i64 10]) ∧ w1 = w') (fun e w' h => by rw [if_pos hr] at h; exact h))
    go_enter Try.func4, Try.ntmps4
    go_wp2_with (first | (go_at_call 8; refine (anchor_call _).mono ?_; rintro e w1 ⟨rfl, hk1⟩) | (go_at_call 9; refine (HN.out _).mono ?_; rintro e w2 ⟨rfl, rfl⟩))
    go_ret
    exact ⟨rfl, hk1⟩
  have hr0 : 0 ≤ room := by omega
  have HN := Lib.hid (fun (w1 : World) => new_ok w1 room hr0 hr2)
  by_cases hsm : Small ops
  case neg =>
    have HS := Lib.hid (fun (w1 : World) (hk : Keeps NoB W w1) => small_says (h.keepN hk) false ⟨(fun h => by cases h), fun h => absurd h hsm⟩)
    clear hsm
    go_enter Try.func4, Try.ntmps4
    go_wp2_with (first | (go_at_call 8; refine (anchor_call _).mono ?_; rintro e w1 ⟨rfl, hk1⟩) | (go_at_call 9; refine (HN.out _).mono ?_; rintro e w2 ⟨a, rfl, h2⟩; have hk2 := hk1.trans h2.keeps) | (go_at_call 14; refine (HS.out _ hk2).mono ?_; rintro e w3 ⟨rfl, hk3⟩))
    go_ret
    exact ⟨rfl, hk2.trans hk3⟩
  case pos =>
    have HS := Lib.hid (fun (w1 : World) (hk : Keeps NoB W w1) => small_says (h.keepN hk) true ⟨fun _ => hsm, fun _ => rfl⟩)
    have Hsm := Lib.hid hsm
    clear hsm
    go_enter Try.func4, Try.ntmps4
    go_wp2_with (first | (go_at_call 8; refine (anchor_call _).mono ?_; rintro e w1 ⟨rfl, hk1⟩) | (go_at_call 9; refine (HN.out _).mono ?_; rintro e w2 ⟨a, rfl, h2⟩; replace h2 := h2.base hk1; have hk2 := h2.keeps) | (go_at_call 14; refine (HS.out _ hk2).mono ?_; rintro e w3 ⟨rfl, hk3⟩; replace h2 := h2.on hk3) | (go_at_call 15; refine (pair_new h2).mono ?_; rintro e w4 ⟨p4, c4, rfl, hp4, hk4⟩; have hst := LawAt.start hp4 hk4 39; unfold refV))
    have Hst := Lib.hid hst
    clear hst hp4 hk4 h2 hk1 hk2 hk3 HN HS
    generalize hXX : w4.heap.size = X at *
    clear hXX
    go_loopw [47] (fun i wr => ∃ (k : Nat) (pr : Option Addr) (cr : Nat) (d : Nds), k ≤ ops.length ∧ i = .int .i64 k ∧ mass d ≤ 2 + 2 * k ∧ HB d (k : Int) ∧ LawAt W wr X a pr cr d room) (fun i _ => ops.length - (intOf i).toNat)
    case atStart => exact ⟨0, p4, c4, newD, Nat.zero_le _, rfl, by rw [mass_new]; decide, hb_new, Hst.out⟩
    case round =>
      rename_i wr
      obtain ⟨k, pr, cr, d, hk, rfl, hms, hhb, hL⟩ := hrel
      have HL := Lib.hid hL
      have HM := Lib.hid hms
      have HH := Lib.hid hhb
      have X0 := hL.X0
      have X1 := hL.X1
      have zX := hL.zX
      have lX := hL.lt
      clear hL hms Hst hhb
      by_cases hlt : k < ops.length
      · obtain ⟨o, hx⟩ : ∃ o, ops[k]? = some o := ⟨_, List.getElem?_eq_getElem hlt⟩
        obtain ⟨g, off, rfl, hS, hg, c0, c1, c2, c3, c4⟩ := (h.keepN HL.out.keeps).op4 hx
        have hso := Lib.hid (Hsm.out.1 o (List.mem_of_getElem? hx))
        have hk60 := Lib.hid (Nat.le_trans hk Hsm.out.2)
        clear hx
        have hal : Keeps NoB wr (wr.alloc (.cells #[.int .i64 o.kind, .int .i64 o.a, .int .i64 o.b, .string o.s, .string o.t] 31)) := (Keeps.refl _ _).alloc _
        by_cases hlo : LoopP d o
        · have hlp := Lib.hid (law_loop (HL.out.on hal) o true ⟨fun _ => hlo, fun _ => rfl⟩)
          clear hlo
          unfold refV at hlp
          go_wp2_with (go_at_call 16; refine hlp.out.mono ?_; rintro e w5 ⟨rfl, hk5⟩)
          go_roundw
          case rel => exact ⟨k + 1, pr, cr, d, by omega, by go_num, by have := HM.out; omega, hb_step HH.out (fun j => by omega), HL.out.on (hal.trans hk5)⟩
          case measure => simp [intOf]; omega
        · have hlp := Lib.hid (law_loop (HL.out.on hal) o false ⟨(fun h => by cases h), fun h => absurd h hlo⟩)
          have hdo := Lib.hid (fun (w5 : World) (hk5 : Keeps NoB wr w5) => law_do (HL.out.on hk5) (mass_len HM.out hk60.out) o hso.out.1 hso.out.2.1 hlo)
          have hm2 := Lib.hid (stepD_mass HL.out.pair.inv room o)
          have hh2 := Lib.hid (hb_step HH.out (stepD_holds HL.out.pair.inv room o))
          clear hlo
          unfold LawDo at hdo
          unfold refV at hlp hdo
          go_wp2_with (first | (go_at_call 16; refine hlp.out.mono ?_; rintro e w5 ⟨rfl, hk5⟩; obtain hk5' := hal.trans hk5; have Y0 := (HL.out.on hk5').X0; have Y1 := (HL.out.on hk5').X1; have b0 := boxed hk5 0 _ rfl; have b1 := boxed hk5 1 _ rfl; have b2 := boxed hk5 2 _ rfl; have b3 := boxed hk5 3 _ rfl; have b4 := boxed hk5 4 _ rfl) | (go_at_call 17; refine (hdo.out _ hk5').mono ?_; rintro e w6 ⟨p', c', rfl, x0, x1, zx, hL6, hk6⟩))
          go_roundw
          case rel => exact ⟨k + 1, p', c', stepD d room o, by omega, by go_num, by have := HM.out; have := hm2.out; omega, hh2.out, hL6⟩
          case measure => simp [intOf]; omega
      · obtain rfl : k = ops.length := by omega
        have HB0 := Lib.hid (hb_60 HH.out (Nat.le_refl _) Hsm.out.2)
        have HM2 : Hid (mass d ≤ 122) := by have := HM.out; have := Hsm.out.2; show mass d ≤ 122; omega
        have hd122 := Nat.le_trans (mass_ge d) HM2.out
        obtain ⟨n0, hn0⟩ : ∃ n0, n0 = d.length := ⟨_, rfl⟩
        rw [← hn0] at X0 hd122
        have HN0 := Lib.hid hn0
        clear HH HM hn0
        go_wp2
        -- the holds
        go_loopw [10, 11, 66] (fun _ _ i wr => ∃ (n : Nat) (pr : Option Addr) (cr : Nat) (d : Nds), n ≤ n0 ∧ i = .int .i64 n ∧ d.length = n0 ∧ mass d ≤ 122 ∧ HB d 60 ∧ HZ d n ∧ LawAt W wr X a pr cr d room) (fun _ _ i _ => n0 - (intOf i).toNat)
        case atStart => exact ⟨0, pr, cr, d, Nat.zero_le _, rfl, HN0.out.symm, HM2.out, HB0.out, (fun j hj => by
          by_cases h0 : 0 ≤ j
          · omega
          · rw [nd_gone (fun h => h0 h.1)]; rfl), HL.out⟩
        case round =>
          rename_i wq
          obtain ⟨n, pq, cq, e, hn, rfl, hlen, hm, hb, hz, hL⟩ := hrel
          have HLq := Lib.hid hL
          have HR := Lib.hid (⟨hlen, hm, hb, hz⟩ : _ ∧ _ ∧ _ ∧ _)
          have Q0 := hL.X0
          have Q1 := hL.X1
          have zQ := hL.zX
          have lQ := hL.lt
          rw [hlen] at Q0
          clear hL hlen hm hb hz X0 X1 zX lX
          by_cases hlt2 : n < n0
          · go_wp2
            go_loopw [11] (fun kv wr => ∃ (k : Nat) (pr : Option Addr) (cr : Nat) (e : Nds), kv = .int .i64 k ∧ (nd e (n : Int)).holds + k ≤ 99 ∧ e.length = n0 ∧ mass e ≤ 122 ∧ HB e 60 ∧ HZ e n ∧ LawAt W wr X a pr cr e room) (fun kv _ => 100 - (intOf kv).toNat)
            case atStart => exact ⟨0, pq, cq, e, rfl, by have := HR.out.2.2.1 (n : Int); omega, HR.out.1, HR.out.2.1, HR.out.2.2.1, HR.out.2.2.2, HLq.out⟩
            case round =>
              obtain ⟨k, pi, ci, e', rfl, hhk, hlen, hm, hb, hz, hL⟩ := hrel
              have HLi := Lib.hid hL
              have HRi := Lib.hid (⟨hhk, hlen, hm, hb, hz⟩ : _ ∧ _ ∧ _ ∧ _ ∧ _)
              have I0 := hL.X0
              have I1 := hL.X1
              have zI := hL.zX
              have lI := hL.lt
              have HI := Lib.hid hL.pair.inv
              have hk100 : k < 100 := by have := (hL.pair.inv.node (n : Int)).holds; omega
              have hhas := Lib.hid (hL.pair.asks fun S hr => r4has_any (room := room) hr hL.pair.inv.zero (n : Int))
              have hrl := Lib.hid (law_rel hL (n : Int))
              have hh := Lib.hid (relD_holds hL.pair.inv (n : Int))
              have hq := Lib.hid (fun (wz : World) (hz : LawN (fun g => g < W.heap.size ∨ g = X) W wz X a (relD e' (n : Int)) pi ci e' room) => hz.ref fun hp => q_rel hp HLi.out.pair.inv HLi.out.pair.clean (mass_one HLi.out.pair.small hm) (n : Int))
              rw [hlen] at I0
              unfold RefIn refV at hq
              unfold refV at hhas
              rw [hlen, relD_length, hlen] at hq
              rw [hlen] at hhas
              clear hL hhk hlen hm hb hz Q0 Q1 zQ lQ
              by_cases hi : has e' (n : Int)
              case neg =>
                rw [decide_eq_false hi] at hhas
                have Hi := Lib.hid hi
                clear hi hrl hq hh
                go_wp2_with (go_at_call 18; refine hhas.out.mono ?_; rintro e w5 ⟨rfl, hk5⟩)
                go_roundw
                case rel => exact ⟨n + 1, pi, ci, e', by omega, by go_num, HRi.out.2.1, HRi.out.2.2.1, HRi.out.2.2.2.1, hz_gone HI.out HRi.out.2.2.2.2 (.inl Hi.out), HLi.out.on hk5⟩
                case measure => simp [intOf]; omega
              case pos =>
                rw [decide_eq_true hi] at hhas
                have Hi := Lib.hid hi
                clear hi
                by_cases he : relErr e' (n : Int) = 0
                case neg =>
                  have hn0 := Lib.hid (hh.out.2.2 he Hi.out)
                  have hD : relD e' (n : Int) = e' := if_neg he
                  rw [hD] at hrl
                  have HE := Lib.hid he
                  clear hq hh hD
                  generalize relErr e' (n : Int) = er at *
                  go_wp2_with (first | (go_at_call 18; refine hhas.out.mono ?_; rintro e w5 ⟨rfl, hk5⟩) | (go_at_call 19; refine (hrl.out _ hk5).mono ?_; rintro e w6 ⟨rfl, hL6, hk6⟩))
                  go_roundw
                  case rel => exact ⟨n + 1, pi, ci, e', by omega, by go_num, HRi.out.2.1, HRi.out.2.2.1, HRi.out.2.2.2.1, hz_gone HI.out HRi.out.2.2.2.2 (.inr hn0.out), hL6.at⟩
                  case measure => simp [intOf]; omega
                case pos =>
                  have hdec := Lib.hid (hh.out.2.1 he)
                  rw [he] at hrl hq
                  have hms := Lib.hid (gc_mass (relTo e' (n : Int)))
                  have hml : Hid (mass (relD e' (n : Int)) ≤ 122) := by
                    have h1 := stepD_mass_rel HI.out (n : Int)
                    have := HRi.out.2.2.1
                    show mass (relD e' (n : Int)) ≤ 122
                    omega
                  clear he hms
                  generalize hdd : relD e' (n : Int) = dd at *
                  have HDD := Lib.hid hdd
                  clear hdd
                  go_wp2_with (first | (go_at_call 18; refine hhas.out.mono ?_; rintro e w5 ⟨rfl, hk5⟩) | (go_at_call 19; refine (hrl.out _ hk5).mono ?_; rintro e w6 ⟨rfl, hL6, hk6⟩; have J0 := hL6.X0; have J1 := hL6.X1; rw [HRi.out.2.1] at J0) | (go_at_call 20; refine (hq.out _ hL6).mono ?_; rintro e w7 ⟨p7, c7, rfl, x0, x1, zx, hL7, hk7⟩))
                  go_roundw
                  case rel =>
                    have hI7 := hL7.pair.inv
                    have e1 := HDD.out
                    refine ⟨k + 1, p7, c7, dd, by go_num, ?_, ?_, hml.out, ?_, ?_, hL7.at⟩
                    · have := hdec.out; have := HRi.out.1; push_cast; omega
                    · rw [← e1, relD_length]; exact HRi.out.2.1
                    · rw [← e1]; exact hb_rel HI.out HRi.out.2.2.2.1 _
                    · rw [← e1]; rw [← e1] at hI7; exact hz_rel HI.out HRi.out.2.2.2.2 _ hI7
                  case measure => simp [intOf]; omega
          · obtain rfl : n = n0 := by omega
            have hl0 := HR.out.1
            have HH0 := Lib.hid (hz_all (by rw [hl0]; exact HR.out.2.2.2) : ∀ j, (nd e j).holds = 0)
            have HC0 : Hid (cntNE e + 0 ≤ n ∨ cntNE e = 0) := .inl (by have := cntNE_le e; omega)
            have HL0 := Lib.hid hl0
            clear hl0
            go_wp2
            go_loopw [92] (fun i wr => ∃ (r : Nat) (pr : Option Addr) (cr : Nat) (d : Nds), r ≤ n ∧ i = .int .i64 r ∧ d.length = n ∧ (∀ j, (nd d j).holds = 0) ∧ (cntNE d + r ≤ n ∨ cntNE d = 0) ∧ LawAt W wr X a pr cr d room) (fun i _ => n - (intOf i).toNat)
            case atStart => exact ⟨0, pq, cq, e, Nat.zero_le _, rfl, HL0.out, HH0.out, HC0.out, HLq.out⟩
            case round =>
              obtain ⟨r, p1, c1, d, hr, rfl, hlen, hh, hcn, hL⟩ := hrel
              have HL1 := Lib.hid hL
              have HA1 := Lib.hid (⟨hlen, hh, hcn⟩ : _ ∧ _ ∧ _)
              have A0 := hL.X0
              have A1 := hL.X1
              have zA := hL.zX
              have lA := hL.lt
              rw [hlen] at A0
              have hDx : ∃ D, cntNE d = 0 ∨ Bot d D := by
                by_cases h0 : cntNE d = 0
                · exact ⟨0, .inl h0⟩
                · obtain ⟨D, hD⟩ := bot_any hL.pair.inv (Nat.pos_of_ne_zero h0); exact ⟨D, .inr hD⟩
              obtain ⟨D, hD⟩ := hDx
              have HD := Lib.hid hD
              clear hL hlen hh hcn hD Q0 Q1 zQ lQ
              by_cases hlt3 : r < n
              · go_wp2
                go_loopw [97] (fun i wr => ∃ (m : Nat) (pr : Option Addr) (cr : Nat) (e : Nds), m ≤ n ∧ i = .int .i64 m ∧ Shr d e ∧ (∀ j, (nd e j).holds = 0) ∧ (Bot d D → D < m → (nd e (D : Int)).ents = []) ∧ LawAt W wr X a pr cr e room) (fun i _ => n - (intOf i).toNat)
                case atStart => exact ⟨0, p1, c1, d, Nat.zero_le _, rfl, Shr.refl _, HA1.out.2.1, (fun _ h => absurd h (Nat.not_lt_zero _)), HL1.out⟩
                case round =>
                  obtain ⟨m, p2, c2, e2, hm, rfl, hsh, hh, hbd, hL⟩ := hrel
                  have HL2 := Lib.hid hL
                  have HA2 := Lib.hid (⟨hsh, hh, hbd⟩ : _ ∧ _ ∧ _)
                  have HI2 := Lib.hid hL.pair.inv
                  have hl2 : e2.length = n := by rw [hsh.1]; exact HA1.out.1
                  have B0 := hL.X0
                  have B1 := hL.X1
                  have zB := hL.zX
                  have lB := hL.lt
                  have hhas := law_has hL (m : Int)
                  rw [hl2] at B0 hhas
                  clear hsh hh hbd A0 A1 zA lA
                  by_cases hlt4 : m < n
                  · by_cases hi : has e2 (m : Int)
                    case neg =>
                      rw [decide_eq_false hi] at hhas
                      have HHas := Lib.hid hhas
                      have Hi := Lib.hid hi
                      clear hi hhas hL hl2
                      go_wp2_with (go_at_call 18; refine HHas.out.mono ?_; rintro e w5 ⟨rfl, hk5⟩)
                      go_roundw
                      case rel =>
                        refine ⟨m + 1, p2, c2, e2, by omega, by go_num, HA2.out.1, HA2.out.2.1, fun hB hDm => ?_, HL2.out.on hk5⟩
                        by_cases e1 : D = m
                        · subst e1; rw [(HI2.out.node _).gone (not_has Hi.out)]; rfl
                        · exact HA2.out.2.2 hB (by omega)
                      case measure => simp [intOf]; omega
                    case pos =>
                      rw [decide_eq_true hi] at hhas
                      have HHas := Lib.hid hhas
                      have hel := nd_ents_len hL.pair.small (m : Int)
                      have HRow := Lib.hid (fun (wz : World) (hz : LawAt W wz X a p2 c2 e2 room) => law_row hz (m := m) (by rw [hl2]; exact hlt4))
                      have HL2' := Lib.hid hl2
                      clear hi hhas hL hl2
                      generalize hl0 : (nd e2 (m : Int)).ents = l0 at *
                      have Hl0 := Lib.hid hl0
                      clear hl0
                      go_wp2_with (first | (go_at_call 18; refine HHas.out.mono ?_; rintro e w5 ⟨rfl, hk5⟩; have hL5 := HL2.out.on hk5; obtain ⟨S5, g5, off5, q5, m5, rfl, hrow⟩ := HRow.out _ hL5; have C0 := hL5.X0; have C1 := hL5.X1; rw [HL2'.out] at C0; have R4 := hrow.c4; have hgl := hrow.lt; have lC := hL5.lt; have hsl5 := hrow.sl; rw [Hl0.out] at R4 hsl5) | (at_builtin; go_loud (refine wpl_append rfl (.tmp 104) (.tmp 110) rfl tEntR (own_lit (E := encEnt) (S := fun _ => True) [] #[] rfl 0 rfl trivial (by decide)) ⟨q5, m5, rfl, hsl5.keepN ((Keeps.refl NoB _).alloc _)⟩ rfl rfl trivial (by simp [maxLen]; omega) (by simp; omega) ?_); intro v6 w6 ho6 hk6 hf6; rw [List.nil_append] at ho6; have Ho6 := Lib.hid ho6; obtain ⟨pl, cl, rfl, hsl6⟩ := ho6.sl))
                      have k56 : Keeps NoB w5 w6 := ((Keeps.refl NoB w5).alloc (.cells #[] 52)).step hk6 (fun g hg => .inr (by simp [Value.ownBlock] at hg; omega))
                      have hv6 : ∀ g, (Value.slice pl l0.length cl).ownBlock = some g → w5.heap.size ≤ g ∧ g < w6.heap.size := fun g hg => ⟨by
                        rcases hf6 g hg with h1 | h1
                        · simp [Value.ownBlock] at h1; omega
                        · simp at h1; omega, ho6.lt g hg⟩
                      obtain ⟨hN6, hvX⟩ := law_into hL5 k56 hv6
                      have HN6 := Lib.hid hN6
                      have HvX := Lib.hid hvX
                      have hcl6 := hsl6.cap
                      have hml6 := hsl6.max
                      unfold maxLen at hml6
                      clear hN6 hvX hv6 hf6 k56 hk6 hsl5 hrow hgl lC R4 C0 C1 hL5 hk5 hsl6 ho6 B0 B1 zB lB HHas HRow
                      go_loopw [113] (fun i wr => ∃ (k : Nat) (pr : Option Addr) (cr : Nat) (e : Nds), k ≤ l0.length ∧ i = .int .i64 k ∧ Shr e2 e ∧ (∀ j, (nd e j).holds = 0) ∧ (Bot d D → D = m → ∀ x ∈ (nd e (m : Int)).ents, x ∈ l0.drop k) ∧
                        LawN (NV W X (.slice pl l0.length cl)) W wr X a e pr cr e room ∧ Own encEnt 52 (fun _ => True) wr (.slice pl l0.length cl) l0) (fun i _ => l0.length - (intOf i).toNat)
                      case atStart => exact ⟨0, _, _, e2, Nat.zero_le _, rfl, Shr.refl _, HA2.out.2.1, (fun _ _ x hx => by rw [List.drop_zero, ← Hl0.out]; exact hx), HN6.out, Ho6.out⟩
                      case round =>
                        obtain ⟨k, p3, c3, e3, hk, rfl, hsh, hh, hbd, hN, ho⟩ := hrel
                        have HN := Lib.hid hN
                        have HA3 := Lib.hid (⟨hsh, hh, hbd⟩ : _ ∧ _ ∧ _)
                        have HOw := Lib.hid ho
                        have HI3 := Lib.hid hN.pair.inv
                        have hl3 : e3.length = n := by rw [hsh.1]; exact HL2'.out
                        by_cases hlt5 : k < l0.length
                        · obtain ⟨x, hx⟩ : ∃ x, l0[k]? = some x := ⟨_, List.getElem?_eq_getElem hlt5⟩
                          have D0 := hN.X0
                          have D1 := hN.X1
                          have lD := hN.lt
                          rw [hl3] at D0
                          have hlv := law_leave hN HvX.out (m : Int) x
                          unfold LeaveIn at hlv
                          rw [hl3] at hlv
                          have HLv := Lib.hid hlv
                          obtain ⟨g1, off1, rfl, _, _, c0, c1⟩ := ho.at.ent hx
                          have Hx := Lib.hid hx
                          clear hx hlv hN ho hsh hh hbd hl3
                          generalize hle : leaveErr e3 (m : Int) x.1 = le at *
                          generalize hlt6 : leaveTo e3 (m : Int) x.1 = e4 at *
                          have He4 := Lib.hid hlt6
                          clear hle hlt6
                          go_wp2_with (first | (go_at_call 21; go_loud (refine HLv.out.mono ?_); rintro e w8 ⟨rfl, b0, y0, y1, hin⟩; have Hin := Lib.hid hin; clear hin) | (go_at_call 22; go_loud (refine Hin.out.mono ?_); rintro e w9 ⟨p9, c9, rfl, x0, x1, zx, hL9, hOw⟩))
                          go_roundw
                          case rel =>
                            have hI9 := hL9.pair.inv
                            have e1 := He4.out
                            refine ⟨k + 1, p9, c9, e4, by omega, by go_num, ?_, ?_, ?_, hL9, hOw _ HOw.out⟩
                            · rw [← e1]; exact HA3.out.1.trans (Shr.leave _ _ _)
                            · rw [← e1]; rw [← e1] at hI9; exact hz_leave HI3.out HA3.out.2.1 _ _ hI9
                            · intro hB hDm
                              rw [← e1]
                              have hst := HA2.out.1.trans HA3.out.1
                              refine inner_step HI3.out (fun y hy => ?_) (HA3.out.2.2 hB hDm) Hx.out
                              have hyd := hst.2 _ _ hy
                              exact hst.nil (hB.2.2 y (by rw [hDm]; exact hyd))
                          case measure => simp [intOf]; omega
                        · obtain rfl : k = l0.length := by omega
                          clear hN ho hsh hh hbd hl3
                          go_wp2
                          go_roundw
                          case rel =>
                            refine ⟨m + 1, p3, c3, e3, by omega, by go_num, HA2.out.1.trans HA3.out.1, HA3.out.2.1, fun hB hDm => ?_, HN.out.at⟩
                            by_cases e1 : D = m
                            · have := HA3.out.2.2 hB e1
                              rw [List.drop_length] at this
                              rw [e1]
                              exact List.eq_nil_iff_forall_not_mem.2 fun y hy => by cases this y hy
                            · exact HA3.out.1.nil (HA2.out.2.2 hB (by omega))
                          case measure => simp [intOf]; omega
                  · obtain rfl : m = n := by omega
                    have hend := Lib.hid (round_end HA1.out.1 HA1.out.2.2 HD.out HA2.out.1 HA2.out.2.2)
                    have hl2' := Lib.hid hl2
                    clear hl2 hhas hL
                    go_wp2
                    go_roundw
                    case rel => exact ⟨r + 1, p2, c2, e2, by omega, by go_num, hl2'.out, HA2.out.2.1, hend.out, HL2.out⟩
                    case measure => simp [intOf]; omega
              · obtain rfl : r = n := by omega
                have h0 : cntNE d = 0 := by have := HA1.out.2.2; omega
                obtain ⟨hu, hc⟩ := room_end HL1.out.pair.inv HL1.out.pair.clean HA1.out.2.1 h0
                have hus := Lib.hid (HL1.out.pair.tells fun R lk up hR => used_any hR)
                have hcs := Lib.hid (HL1.out.pair.tells fun R lk up hR => count_any hR)
                rw [hu] at hus
                rw [hc] at hcs
                clear hu hc h0
                go_wp2_with (first | (go_at_call 13; refine hus.out.mono ?_; rintro e wz ⟨rfl, rfl⟩) | (go_at_call 23; refine hcs.out.mono ?_; rintro e wz ⟨rfl, rfl⟩))
                go_ret
                exact ⟨rfl, HL1.out.keeps⟩

end Go.Proofs.Ytbcejodnjeklpaa
