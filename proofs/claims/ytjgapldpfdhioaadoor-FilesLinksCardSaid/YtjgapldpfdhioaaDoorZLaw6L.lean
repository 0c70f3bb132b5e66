/-
  Layer 6's statements: the walk of FilesLinks.
-/
import Derived.Test.YtjgapldpfdhioaaDoorZLaw6A
import Derived.Test.YtjgapldpfdhioaaDoorC08
import Derived.Test.YtjgapldpfdhioaaDoorB23

set_option linter.unusedSimpArgs false
set_option linter.unusedVariables false

set_option maxRecDepth 100000
set_option maxHeartbeats 8000000
namespace Go.Proofs.YtjgapldpfdhioaaDoor
open Go Go.RowKit

/-- Between the names: who does it, what has been made, where. -/
structure LJ1 (W wr : World) (WB F a : Nat) (k : Nat) (v : Value) (l : List ByteArray) (d : Nds) (calls : Int) : Prop where
  fx : FSx W (fun g => g = WB ∨ v.ownBlock = some g) wr F a d 65536 calls (-1)
  wb : Bx wr WB [.int .i64 1, .int .i64 0]
  own : Own encStr 9 (fun g => W.heap.size ≤ g ∧ g ≠ WB) wr v l
  st : K1 d l
  len : l.length ≤ k
  size : ∀ s ∈ l, s.size ≤ 5000
  ms : mass d ≤ 2 + 3 * k
  c0 : 0 ≤ calls
  c1 : calls ≤ k

/-- Between the paths: what is left. -/
structure LJ2 (W wr : World) (WB F a : Nat) (k : Nat) (v : Value) (l ns : List ByteArray) (id : Int) (data : ByteArray) (d : Nds) (calls : Int) : Prop where
  fx : FSx W (fun g => g = WB ∨ v.ownBlock = some g) wr F a d 65536 calls (-1)
  wb : Bx wr WB [.int .i64 1, .int .i64 0]
  own : Own encStr 9 (fun g => W.heap.size ≤ g ∧ g ≠ WB) wr v l
  st : K2 d data l ns id k
  ms : mass d ≤ 40 + 3 * k
  c0 : 0 ≤ calls
  c1 : calls ≤ 20 + k

theorem links_any {S : Nat → Prop} {W : World} {pl : Option Addr} {cl : Nat} {ls : List ByteArray} (h : SlAt encStr S W pl cl ls) (data : ByteArray) (hsz : data.size ≤ 9223372036854775807) :
    Calls Tryd.prog 4 #[.slice pl ls.length cl, .string data] W fun e w' => e = .returned (.bool true) ∧ Keeps NoB W w' := by
  have hcap := h.cap
  have hmax := h.max
  unfold maxLen at hmax
  have HA := Lib.hid anchor6_any
  have hc : (ls.length : Int) < 1 ∨ (¬ (ls.length : Int) < 1 ∧ (10 : Int) < (ls.length : Int)) ∨ (¬ (ls.length : Int) < 1 ∧ ¬ (10 : Int) < (ls.length : Int) ∧ (500 : Int) < (data.size : Int)) ∨ (¬ (ls.length : Int) < 1 ∧ ¬ (10 : Int) < (ls.length : Int) ∧ ¬ (500 : Int) < (data.size : Int)) := by omega
  rcases hc with z | ⟨z, z2⟩ | ⟨z, z2, z3⟩ | ⟨z, z2, z3⟩
  · go_enter Tryd.func4, Tryd.ntmps4
    go_wp2_with (go_at_call 12; go_loud (refine (HA.out _).mono ?_); rintro e w1 ⟨rfl, hk1⟩)
    go_ret
    exact ⟨rfl, hk1⟩
  · go_enter Tryd.func4, Tryd.ntmps4
    go_wp2_with (go_at_call 12; go_loud (refine (HA.out _).mono ?_); rintro e w1 ⟨rfl, hk1⟩)
    go_ret
    exact ⟨rfl, hk1⟩
  · go_enter Tryd.func4, Tryd.ntmps4
    go_wp2_with (go_at_call 12; go_loud (refine (HA.out _).mono ?_); rintro e w1 ⟨rfl, hk1⟩)
    go_ret
    exact ⟨rfl, hk1⟩
  have HB := Lib.hid (fun wx : World => begin_any wx 65536 (-1) (by decide) (by decide))
  go_enter Tryd.func4, Tryd.ntmps4
  go_upto_region 6 with (first | (go_at_call 12; go_loud (refine (HA.out _).mono ?_); rintro e w1 ⟨rfl, hk1⟩) | (go_at_call 13; go_loud (refine (HB.out _).mono ?_); rintro e w2 ⟨F, a, rfl, FS, k2⟩))
  have FX0 := Lib.hid (FSx.new (FS.less (fun g hg => Nat.lt_of_lt_of_le hg hk1.size)) (hk1.trans k2))
  clear HA HB FS hk1 k2 z
  go_upto_region 9 with fail
  have HW := Lib.hid (Bx.new (Keeps.refl NoB (w2.alloc (.cells #[.int .i64 1, .int .i64 0] 36))))
  have FX1 := Lib.hid (FX0.out.more (P' := fun g => g = w2.heap.size ∨ (Value.slice none 0 0).ownBlock = some g) ((Keeps.refl NoB w2).alloc (.cells #[.int .i64 1, .int .i64 0] 36)) (fun g hg => .inr (by rcases hg with hg | hg; exact ⟨by omega, by rw [hg]; simp⟩; cases hg)))
  have hWB : W.heap.size ≤ w2.heap.size := FX0.out.keeps.size
  clear FX0
  generalize w2.alloc (.cells #[.int .i64 1, .int .i64 0] 36) = w3 at *
  generalize w2.heap.size = WB at *
  have HJ0 : Hid (LJ1 W w3 WB F a 0 (.slice none 0 0) [] newD 0) := ⟨FX1.out, HW.out, Own.nil _ _ _ _, .inl ⟨rfl, zero_new⟩, Nat.le_refl _, (fun s hs => by cases hs), by rw [mass_new]; decide, by decide, by decide⟩
  clear FX1 HW
  go_wp2_with fail
  go_loopw [8, 51] (fun t i wr => ∃ (k : Nat) (l : List ByteArray) (d : Nds) (calls : Int), k ≤ ls.length ∧ i = .int .i64 k ∧ LJ1 W wr WB F a k t l d calls) (fun _ i _ => ls.length + 1 - (intOf i).toNat)
  case atStart => exact ⟨0, [], newD, 0, Nat.zero_le _, rfl, HJ0.out⟩
  case round =>
    obtain ⟨k, l, d, calls, hk, rfl, hJ⟩ := hrel
    have HJ := Lib.hid hJ
    clear hJ HJ0
    by_cases hlt : k < ls.length
    case neg =>
      obtain rfl : k = ls.length := by omega
      obtain ⟨p8, c8, rfl, hsl8⟩ := HJ.out.own.sl
      have hll := HJ.out.len
      by_cases hl : l = []
      · subst hl
        have HK := Lib.hid HJ.out.fx.keeps
        clear HJ
        go_wp2_with fail
        go_ret
        exact ⟨rfl, HK.out⟩
      have hln : 0 < l.length := List.length_pos_iff.2 hl
      have hll10 : l.length ≤ 10 := by omega
      have hb : ((l.length : Int) == 0) = false := by simp; exact hl
      obtain ⟨s, hs⟩ : ∃ s, l[l.length - 1]? = some s := ⟨_, List.getElem?_eq_getElem (by omega)⟩
      have hsz5 : s.size ≤ 4294967280 := Nat.le_trans (HJ.out.size s (List.mem_of_getElem? hs)) (by decide)
      have hce : ∀ c, 0 ≤ c → callE c (-1) = 0 := fun c hc => by unfold callE; rw [if_neg (by omega)]
      have hc0 := HJ.out.c0
      have hc1 : calls ≤ 4611686018427387904 := by have := HJ.out.c1; omega
      have hms : mass d ≤ 32 := by have := HJ.out.ms; omega
      have hc10 : calls ≤ 10 := by have := HJ.out.c1; omega
      have HSZ0 := Lib.hid HJ.out.size
      obtain ⟨id, es, ns, w1', w2', w3', w4', w5', w6', w7'⟩ := k1_write HJ.out.st hl hll10 hs
      have HL := Lib.hid (HJ.out.fx.on (Keeps.refl NoB wr).drew)
      have HO := Lib.hid (HL.out.call fun N hN => open_any hN hc0 hc1 (by omega) 1 0 s 2 0 hsz5)
      rw [show openF calls (-1) d 65536 1 0 s 2 0 = openR d 65536 1 0 s 2 0 by unfold openF; rw [if_neg (fun x => x.2 (hce _ hc0))], show openN calls 2 = calls by unfold openN; rw [if_neg (by decide)], w1'] at HO
      have HM := Lib.hid (openR_mass (d := d) (room := 65536) 1 0 s 2 0)
      have HO1 := Lib.hid w2'
      generalize (openR d 65536 1 0 s 2 0).1 = dO at *
      obtain ⟨g8, o8, rfl, _, hg8, t0⟩ := hsl8.str hs
      have HNm := Lib.hid w5'
      have HEs := Lib.hid (⟨w3', w4', w6', w7'⟩ : es ≠ [] ∧ es.length ≤ 20 ∧ es.length = ns.length ∧ ∀ n ∈ ns, entGet es n = some id)
      have b0 := HJ.out.wb.cell 0 _ rfl
      have b1 := HJ.out.wb.cell 1 _ rfl
      obtain ⟨m, hm⟩ : ∃ m, l.length - 1 = m := ⟨_, rfl⟩
      rw [hm] at t0 hs
      have HT := Lib.hid (fun (wx : World) (k : Keeps (fun g => ¬ (g < W.heap.size ∨ g = WB ∨ (Value.slice (some ⟨g8, o8, none⟩) l.length c8).ownBlock = some g)) wr.drew wx) => (show wx.cell? ⟨g8, o8 + m, none⟩ = some (.string s) from by
        obtain ⟨p, c, hv, hsl⟩ := ((HJ.out.own.keep (Keeps.refl NoB wr).drew (fun _ _ h => h)).keep k (fun g hg hn => hn (.inr (.inr hg)))).sl
        cases hv
        obtain ⟨g', o', e, _, _, t⟩ := hsl.str hs
        cases e
        exact t))
      have hwr : IntKind.i64.wrap ((l.length : Int) - 1) = (m : Int) := by rw [IntKind.wrap_i64]; omega
      have hbd : (m : Int) < (l.length : Int) := by omega
      have HNe := Lib.hid hl
      clear w1' w2' w3' w4' w5' w6' w7' hsz5 hs hl hm
      go_upto_region 25 with fail
      go_cut [13, 14] from 13 to 104 (fun x y wx => x = .int .i64 id ∧ y = .int .i64 0 ∧ FSx W (fun g => g = WB ∨ (Value.slice (some ⟨g8, o8, none⟩) l.length c8).ownBlock = some g) wx F a dO 65536 calls (-1) ∧ Keeps (fun g => ¬ (g < W.heap.size ∨ g = WB ∨ (Value.slice (some ⟨g8, o8, none⟩) l.length c8).ownBlock = some g)) wr.drew wx)
      case first =>
        have d0 := (HJ.out.wb.on (Keeps.refl NoB wr).drew).cell 0 _ rfl
        have d1 := (HJ.out.wb.on (Keeps.refl NoB wr).drew).cell 1 _ rfl
        have d2 : wr.drew.cell? ⟨g8, o8 + m, none⟩ = some (.string s) := t0
        go_region_held3 (fun wz => wz.cell? ⟨WB, 0, none⟩ = some (.int .i64 1) ∧ wz.cell? ⟨WB, 1, none⟩ = some (.int .i64 0) ∧ wz.cell? ⟨g8, o8 + m, none⟩ = some (.string s)) (refine ⟨?_, ?_, ?_⟩ <;> with_reducible assumption)
          (first | (go_at_call 14; refine HO.out.mono ?_; rintro e w4 ⟨rfl, FX4, k4⟩; have z2 := HT.out _ k4; have z0 := (HL.out.kept (HJ.out.wb.on (Keeps.refl NoB wr).drew) k4 (.inl rfl)).cell 0 _ rfl; have z1 := (HL.out.kept (HJ.out.wb.on (Keeps.refl NoB wr).drew) k4 (.inl rfl)).cell 1 _ rfl))
        all_goals (go_wp2_with fail; go_meet; exact ⟨rfl, rfl, FX4, k4⟩)
      case rest =>
        obtain ⟨rfl, rfl, FX4, k4⟩ := hcut
        have HB4 := Lib.hid (HL.out.kept (HJ.out.wb.on (Keeps.refl NoB wr).drew) k4 (.inl rfl))
        have HO4 := Lib.hid ((HJ.out.own.keep (Keeps.refl NoB wr).drew (fun _ _ h => h)).keep k4 (fun g hg hn => hn (.inr (.inr hg))))
        have HX4 := Lib.hid FX4
        clear FX4 k4 HO HL HJ b0 b1 t0 hwr hbd hg8 HT
        -- Write, Close
        have HOw := Lib.hid (one_write HO1.out HX4.out.inv HEs.out.2.1 (by omega : data.size ≤ 500))
        obtain ⟨wr1, wr2⟩ := HOw.out
        have HWt := Lib.hid (HX4.out.call fun N hN => fwrite_any hN hc0 hc1 id 0 data (by omega))
        rw [show wrtF calls (-1) dO 65536 id 0 data = (writeTo dO 65536 id 0 data, 0) by unfold wrtF orFail; rw [if_neg (by rw [hce _ hc0]; simp), wr1]] at HWt
        have HMw := Lib.hid (writeTo_mass (d := dO) (room := 65536) id 0 data)
        obtain ⟨wr3, wr4⟩ := k2_start wr2 HEs.out.1 HNm.out HEs.out.2.2.1 HEs.out.2.2.2
        generalize writeTo dO 65536 id 0 data = dW at *
        have HCl := Lib.hid (fun (wx : World) (hx : FSx W (fun g => g = WB ∨ (Value.slice (some ⟨g8, o8, none⟩) l.length c8).ownBlock = some g) wx F a dW 65536 (calls + 1) (-1)) => hx.call fun N hN => close_any hN id)
        rw [wr3] at HCl
        have HK2 := Lib.hid wr4
        have HMr := Lib.hid (relD_mass (d := dW) (i := id))
        generalize relD dW id = dR at *
        clear wr1 wr2 wr3 wr4 HOw HO1
        go_upto_region 28 with (first | (go_at_call 17; go_loud (refine HWt.out.mono ?_); rintro e w5 ⟨rfl, FX5, k5⟩) | (go_at_call 15; go_loud (refine (HCl.out _ FX5).mono ?_); rintro e w6 ⟨rfl, FX6, k6⟩))
        have HJ0 : Hid (LJ2 W w6 WB F a 0 (.slice (some ⟨g8, o8, none⟩) l.length c8) l ns id data dR (calls + 1)) :=
          ⟨FX6, FX5.kept (HX4.out.kept HB4.out k5 (.inl rfl)) k6 (.inl rfl), (HO4.out.keep k5 (fun g hg hn => hn (.inr (.inr hg)))).keep k6 (fun g hg hn => hn (.inr (.inr hg))), HK2.out,
            by have := HM.out; have := HMw.out; have := HMr.out; omega, by omega, by have := hll10; omega⟩
        clear HX4 HB4 HO4 HWt HCl HK2 HM HMw HMr FX5 FX6 k5 k6 hce hc0 hc1 hms HEs HNm
        have HSZ := Lib.hid HSZ0.out
        have HN2 : Hid (l.length ≤ 10) := hll10
        go_wp2_with fail
        go_loopw [122] (fun i wr => ∃ (k : Nat) (d : Nds) (calls : Int), k ≤ l.length ∧ i = .int .i64 k ∧ LJ2 W wr WB F a k (.slice (some ⟨g8, o8, none⟩) l.length c8) l ns id data d calls) (fun i _ => l.length + 1 - (intOf i).toNat)
        case atStart => exact ⟨0, dR, calls + 1, Nat.zero_le _, rfl, HJ0.out⟩
        case round =>
          obtain ⟨k, d, calls, hk, rfl, hJ⟩ := hrel
          have HJ := Lib.hid hJ
          clear hJ HJ0
          by_cases hlt : k < l.length
          · obtain ⟨s, hs⟩ : ∃ s, l[k]? = some s := ⟨_, List.getElem?_eq_getElem hlt⟩
            have t0 : wr.cell? ⟨g8, o8 + k, none⟩ = some (.string s) := by
              obtain ⟨p, c, hv, hsl⟩ := HJ.out.own.sl
              cases hv
              obtain ⟨g', o', e, _, _, t⟩ := hsl.str hs
              cases e
              exact t
            have hsz5 : s.size ≤ 4294967280 := Nat.le_trans (HSZ.out s (List.mem_of_getElem? hs)) (by decide)
            have hc0 := HJ.out.c0
            have hc1 : calls ≤ 4611686018427387904 := by have := HJ.out.c1; omega
            have hce : callE calls (-1) = 0 := by unfold callE; rw [if_neg (by omega)]
            have hms : mass d ≤ 80 := by have := HJ.out.ms; omega
            obtain ⟨q1, q2, q3, q4, q5, q6⟩ := k2_step HJ.out.st (by omega : data.size ≤ 500) hs
            have HO := Lib.hid (HJ.out.fx.call fun N hN => open_any hN hc0 hc1 (by omega) 1 0 s 1 0 hsz5)
            rw [show openF calls (-1) d 65536 1 0 s 1 0 = openR d 65536 1 0 s 1 0 by unfold openF; rw [if_neg (fun x => x.2 hce)], show openN calls 1 = calls by unfold openN; rw [if_neg (by decide)], q1] at HO
            have HM := Lib.hid (openR_mass (d := d) (room := 65536) 1 0 s 1 0)
            generalize (openR d 65536 1 0 s 1 0).1 = dO at *
            have b0 := HJ.out.wb.cell 0 _ rfl
            have b1 := HJ.out.wb.cell 1 _ rfl
            obtain ⟨m2, hm2⟩ : ∃ m2 : Nat, l.length - k = m2 := ⟨_, rfl⟩
            have hwr : IntKind.i64.wrap ((l.length : Int) - (k : Int)) = (m2 : Int) := by rw [IntKind.wrap_i64]; omega
            have hlk : links dO id = m2 := by omega
            have HI1 := Lib.hid (show infoAt dO id = .agg #[.int .i64 (nd dO id).kind, .int .i64 (nd dO id).mode, .int .i64 m2, .int .i64 (nd dO id).holds, .int .i64 (sizeOf4 (nd dO id))] by unfold infoAt infoV; rw [if_pos q3, hlk])
            have HR := Lib.hid q2
            have HQ5 := Lib.hid q5
            have HQ6 := Lib.hid q6
            have HQ3 := Lib.hid q3
            clear q1 q2 q3 q4 q5 q6 hs hm2 hlk
            go_upto_region 32 with (go_at_call 14; go_loud (refine HO.out.mono ?_); rintro e w4 ⟨rfl, FX4, k4⟩)
            have HB4 := Lib.hid (HJ.out.fx.kept HJ.out.wb k4 (.inl rfl))
            have HO4 := Lib.hid (HJ.out.own.keep k4 (fun g hg hn => hn (.inr (.inr hg))))
            have HX4 := Lib.hid FX4
            clear FX4 k4 b0 b1 t0 HO
            have HRd := Lib.hid (HX4.out.asks fun N hN => fread_any hN id 0 1000)
            have HDk := Lib.hid (HX4.out.asks fun N hN => disk_any hN)
            have HIn := Lib.hid (HX4.out.asks fun N hN => hN.info id)
            rw [HR.out] at HRd
            rw [HI1.out, if_pos HQ3.out] at HIn
            generalize readErr dO id 0 1000 = re at *
            generalize (nd dO id).kind = i0 at *
            generalize (nd dO id).mode = i1 at *
            generalize (nd dO id).holds = i3 at *
            generalize ((sizeOf4 (nd dO id) : Nat) : Int) = i4 at *
            go_upto_region 34 with (first | (go_at_call 18; go_loud (refine HRd.out.mono ?_); rintro e w5 ⟨rfl, rfl⟩) | (go_at_call 19; go_loud (refine HDk.out.mono ?_); rintro e w5 ⟨rfl, rfl⟩) | (go_at_call 20; go_loud (refine HIn.out.mono ?_); rintro e w5 ⟨rfl, k5⟩))
            have k6 : Keeps NoB w4 (w5.alloc (.cells #[.int .i64 i0, .int .i64 i1, .int .i64 m2, .int .i64 i3, .int .i64 i4] 45)) := k5.alloc _
            have HX6 := Lib.hid (HX4.out.on k6)
            have HB6 := Lib.hid (HB4.out.on k6)
            have HO6 := Lib.hid (HO4.out.keep k6 (fun _ _ h => h))
            have j2 := boxed (Keeps.refl NoB (w5.alloc (.cells #[.int .i64 i0, .int .i64 i1, .int .i64 m2, .int .i64 i3, .int .i64 i4] 45))) 2 _ rfl
            clear k5 k6 HRd HDk HIn HX4 HB4 HO4
            generalize w5.alloc (.cells #[.int .i64 i0, .int .i64 i1, .int .i64 m2, .int .i64 i3, .int .i64 i4] 45) = w6' at *
            generalize w5.heap.size = JB at *
            have HCl := Lib.hid (HX6.out.call fun N hN => close_any hN id)
            rw [HQ5.out] at HCl
            have HMr := Lib.hid (relD_mass (d := dO) (i := id))
            have HDI := Lib.hid (fun (wx : World) (hx : FSx W (fun g => g = WB ∨ (Value.slice (some ⟨g8, o8, none⟩) l.length c8).ownBlock = some g) wx F a (relD dO id) 65536 calls (-1)) => hx.inv)
            generalize relD dO id = dC at *
            have HUn := Lib.hid (fun (wx : World) (hx : FSx W (fun g => g = WB ∨ (Value.slice (some ⟨g8, o8, none⟩) l.length c8).ownBlock = some g) wx F a dC 65536 calls (-1)) => (show Calls Tryd.prog _ _ wx (FXo W _ wx F a (remR dC 1 s false).1 65536 (calls + 1) (-1) (.int .i64 0)) from by
              have := hx.call fun N hN => unlink_any hN hc0 hc1 1 0 s hsz5
              rw [show orFail calls (-1) dC (remR dC 1 s false) = remR dC 1 s false by unfold orFail; rw [if_neg (by rw [hce]; simp)], (HQ6.out hx.inv).1] at this
              exact this))
            clear hc1 hce hms hsz5
            go_upto_region 36 with (first | (go_at_call 15; go_loud (refine HCl.out.mono ?_); rintro e w7 ⟨rfl, FX7, k7⟩; have HB7 := Lib.hid (HX6.out.kept HB6.out k7 (.inl rfl)); have y0 := HB7.out.cell 0 _ rfl; have y1 := HB7.out.cell 1 _ rfl) | (go_at_call 21; go_loud (refine (HUn.out _ FX7).mono ?_); rintro e w8 ⟨rfl, FX8, k8⟩))
            have HJ' : Hid (LJ2 W w8 WB F a (k + 1) (.slice (some ⟨g8, o8, none⟩) l.length c8) l ns id data (remR dC 1 s false).1 (calls + 1)) :=
              ⟨FX8, FX7.kept HB7.out k8 (.inl rfl), (HO6.out.keep k7 (fun g hg hn => hn (.inr (.inr hg)))).keep k8 (fun g hg hn => hn (.inr (.inr hg))), (HQ6.out FX7.inv).2,
                by have h1 := HM.out; have h2 := HMr.out; have h3 := HJ.out.ms; have h4 := remR_mass FX7.inv 1 s false; omega, by omega, by have := HJ.out.c1; omega⟩
            clear FX7 FX8 k7 k8 HCl HUn HX6 HB6 HO6 HB7 y0 y1
            go_wp2_with fail
            go_roundw
            case rel => exact ⟨k + 1, _, calls + 1, by omega, by go_num, HJ'.out⟩
            case measure => simp [intOf]; omega
          · obtain rfl : k = l.length := by omega
            have hz := HJ.out.st.2.2 (Nat.le_refl _)
            have HDk := Lib.hid (HJ.out.fx.asks fun N hN => disk_any hN)
            have HCo := Lib.hid (HJ.out.fx.asks fun N hN => hN.count)
            have HUs := Lib.hid (HJ.out.fx.asks fun N hN => hN.used)
            rw [hz.count] at HCo
            rw [hz.used] at HUs
            have HK := Lib.hid HJ.out.fx.keeps
            clear HJ hz
            go_wp2_with (first | (go_at_call 19; go_loud (refine HDk.out.mono ?_); rintro e w5 ⟨rfl, rfl⟩) | (go_at_call 22; go_loud (refine HCo.out.mono ?_); rintro e w5 ⟨rfl, rfl⟩) | (go_at_call 23; go_loud (refine HUs.out.mono ?_); rintro e w5 ⟨rfl, rfl⟩))
            go_ret
            exact ⟨rfl, HK.out⟩
    case pos =>
    obtain ⟨s, hs⟩ : ∃ s, ls[k]? = some s := ⟨_, List.getElem?_eq_getElem hlt⟩
    obtain ⟨gb, off, rfl, hS, hg, c0⟩ := (h.keepN HJ.out.fx.keeps).str hs
    obtain ⟨p8, c8, rfl, hsl8⟩ := HJ.out.own.sl
    have hll := HJ.out.len
    clear hs
    by_cases z5 : 5000 < s.size
    · have z5' : (5000 : Int) < (s.size : Int) := by omega
      have HK := Lib.hid HJ.out.fx.keeps
      clear HJ
      go_wp2_with fail
      go_ret
      exact ⟨rfl, HK.out⟩
    have z5' : ¬ (5000 : Int) < (s.size : Int) := by omega
    have hsz5 : s.size ≤ 4294967280 := by omega
    have Z5 := Lib.hid (Nat.le_of_not_lt z5)
    clear z5
    have b0 := HJ.out.wb.cell 0 _ rfl
    have b1 := HJ.out.wb.cell 1 _ rfl
    have hms : mass d + 3 ≤ 2147483648 := by have := HJ.out.ms; omega
    have hc0 := HJ.out.c0
    have hc1 : calls ≤ 4611686018427387904 := by have := HJ.out.c1; omega
    have hce : callE calls (-1) = 0 := by unfold callE; rw [if_neg (by omega)]
    by_cases hl : l = []
    · subst hl
      have hzz : Zero d := by
        rcases HJ.out.st with ⟨_, h⟩ | ⟨h, _⟩
        · exact h
        · exact absurd rfl h
      have HO := Lib.hid (HJ.out.fx.call fun N hN => open_any hN hc0 hc1 hms 1 0 s 6 384 hsz5)
      rw [show openF calls (-1) d 65536 1 0 s 6 384 = openR d 65536 1 0 s 6 384 by unfold openF; rw [if_neg (fun x => x.2 hce)], show openN calls 6 = calls + 1 by unfold openN; rw [if_pos (by decide)]] at HO
      have HM := Lib.hid (openR_mass (d := d) (room := 65536) 1 0 s 6 384)
      have hk1 := k1_open hzz HJ.out.fx.inv s
      obtain ⟨⟨dO, iO, eO⟩, hO⟩ : ∃ O, openR d 65536 1 0 s 6 384 = O := ⟨_, rfl⟩
      rw [hO] at HO HM hk1
      have HK1 := Lib.hid hk1
      clear hk1 hO hzz hms hc0 hc1 hce hsz5
      simp only at HO HM
      go_upto_region 17 with (go_at_call 14; go_loud (refine HO.out.mono ?_); rintro e w4 ⟨rfl, FX4, k4⟩)
      have HB4 := Lib.hid (HJ.out.fx.kept HJ.out.wb k4 (.inl rfl))
      have HO4 := Lib.hid (HJ.out.own.keep k4 (fun g hg hn => hn (.inr (.inr hg))))
      have HX4 := Lib.hid FX4
      clear FX4 k4 b0 b1 HO
      rcases HK1.out with ⟨e1, e2⟩ | ⟨e1, e2⟩
      · have he : (eO == 0) = false := by simpa using e1
        have HJ' : Hid (LJ1 W w4 WB F a (k + 1) (.slice p8 (List.length (α := ByteArray) []) c8) [] dO (calls + 1)) := ⟨HX4.out, HB4.out, HO4.out, e2, by simp, (fun s hs => by cases hs), by have := HM.out; have := HJ.out.ms; omega, by have := HJ.out.c0; omega, by have := HJ.out.c1; omega⟩
        clear e1 e2
        go_wp2_with fail
        go_roundw
        case rel => exact ⟨k + 1, [], dO, calls + 1, by omega, by go_num, HJ'.out⟩
        case measure => simp [intOf]; omega
      · subst e1
        go_upto_region 18 with fail
        have hWs : W.heap.size < w4.heap.size := Nat.lt_of_le_of_lt hWB HB4.out.lt
        go_upto_region 19 with (at_builtin; refine wpl_append rfl (.tmp 70) (.tmp 72) rfl tStr (HO4.out.keep ((Keeps.refl NoB _).alloc _) (fun _ _ h => h)) (own_lit (S := fun _ => True) [s] #[.string s] rfl 1 rfl trivial (by decide)).sl rfl rfl (by simp; have := HB4.out.lt; omega) (by simp [maxLen]) (by simp) ?_; intro v' w5 hv5 hk5 hf5)
        have ka : Keeps NoB w4 (w4.alloc (.cells #[.string s] 9)) := (Keeps.refl _ _).alloc _
        have HX5 := Lib.hid ((HX4.out.on ka).more2 (P' := fun g => g = WB ∨ v'.ownBlock = some g) hk5 (fun g hg => ⟨.inr hg, ((HO4.out.keep ka (fun _ _ h => h)).2 g hg).1⟩) (fun g hg => by
          rcases hg with hg | hg
          · exact .inl (.inl hg)
          · rcases hf5 g hg with h9 | h9
            · exact .inl (.inr h9)
            · exact .inr ⟨h9, hv5.lt g hg⟩))
        have HB5 := Lib.hid ((HB4.out.on ka).keep hk5 (fun hg => ((HO4.out.keep ka (fun _ _ h => h)).2 _ hg).2 rfl))
        have HO5 := Lib.hid hv5
        clear hv5 hk5 hf5 ka HX4 HB4 HO4
        have HCl := Lib.hid (HX5.out.call fun N hN => close_any hN iO)
        go_upto_region 22 with (go_at_call 15; go_loud (refine HCl.out.mono ?_); rintro e w6 ⟨rfl, FX6, k6⟩)
        have HJ' : Hid (LJ1 W w6 WB F a (k + 1) v' [s] (relD dO iO) (calls + 1)) := ⟨FX6, HX5.out.kept HB5.out k6 (.inl rfl), HO5.out.keep k6 (fun g hg hn => hn (.inr (.inr hg))), e2, by simp, (fun x hx => by simp only [List.mem_singleton] at hx; subst hx; exact Z5.out), by have := HM.out; have := HJ.out.ms; have := relD_mass (d := dO) (i := iO); omega, by have := HJ.out.c0; omega, by have := HJ.out.c1; omega⟩
        clear e2 HCl HX5 HB5 HO5 FX6 k6
        go_wp2_with fail
        go_roundw
        case rel => exact ⟨k + 1, [s], relD dO iO, calls + 1, by omega, by go_num, HJ'.out⟩
        case measure => simp [intOf]; omega
    · have hln : 0 < l.length := List.length_pos_iff.2 hl
      obtain ⟨s0, hs0⟩ : ∃ s0, l[0]? = some s0 := ⟨_, List.getElem?_eq_getElem hln⟩
      have HS0 := Lib.hid hs0
      obtain ⟨g8, o8, rfl, _, hg8, t0⟩ := hsl8.str hs0
      simp only [Nat.add_zero] at t0
      have hs0z : s0.size ≤ 4294967280 := Nat.le_trans (HJ.out.size s0 (List.mem_of_getElem? hs0)) (by decide)
      have hb : ((l.length : Int) == 0) = false := by simp; exact hl
      have hll10 : l.length ≤ 10 := by omega
      have hlp : (0 : Int) < (l.length : Int) := by omega
      have HL := Lib.hid (HJ.out.fx.on (Keeps.refl NoB wr).drew)
      have HLk := Lib.hid (HL.out.call fun N hN => link_any hN hc0 hc1 (by omega) 1 0 s0 s hs0z hsz5)
      have e0 : orFail calls (-1) d (linkR d 65536 1 s0 s) = linkR d 65536 1 s0 s := by unfold orFail; rw [if_neg (by rw [hce]; simp)]
      rw [e0] at HLk
      have HM := Lib.hid (linkR_mass (d := d) (room := 65536) 1 s0 s)
      have hk1 := k1_link HJ.out.st HJ.out.fx.inv hs0 s
      obtain ⟨⟨dO, eO⟩, hO⟩ : ∃ O, linkR d 65536 1 s0 s = O := ⟨_, rfl⟩
      rw [hO] at HLk HM hk1
      have HK1 := Lib.hid hk1
      have HNe := Lib.hid hl
      clear hk1 hO hms hc0 hc1 hce hsz5 hs0 hs0z e0 hl
      go_upto_region 20 with fail
      go_still_tail 6, (by kernel_rfl)
      change wpList _ _ _ _ _ wr.drew
      have HJd := Lib.hid (HJ.out.wb.on (Keeps.refl NoB wr).drew)
      have HOd := Lib.hid (HJ.out.own.keep (Keeps.refl NoB wr).drew (fun _ _ h => h))
      clear b0 b1 c0 t0 hg8
      generalize wr.drew = wd at *
      have hmn : mass dO ≤ 2 + 3 * (k + 1) ∧ 0 ≤ calls + 1 ∧ calls + 1 ≤ ((k + 1 : Nat) : Int) := by have hM9 : mass dO ≤ mass d + 1 := HM.out; have := HJ.out.ms; have := HJ.out.c0; have := HJ.out.c1; omega
      have HMN := Lib.hid hmn
      have HSZ := Lib.hid HJ.out.size
      clear hmn HJ
      rcases HK1.out with ⟨e1, e2⟩ | ⟨e1, e2⟩
      · have he : (eO == 0) = false := by simpa using e1
        go_upto_region 22 with (go_at_call 16; go_loud (refine HLk.out.mono ?_); rintro e w4 ⟨rfl, FX4, k4⟩)
        have HJ' : Hid (LJ1 W w4 WB F a (k + 1) (.slice (some ⟨g8, o8, none⟩) l.length c8) l dO (calls + 1)) := ⟨FX4, HL.out.kept HJd.out k4 (.inl rfl), HOd.out.keep k4 (fun g hg hn => hn (.inr (.inr hg))), e2, by omega, HSZ.out, HMN.out.1, HMN.out.2.1, HMN.out.2.2⟩
        clear e1 e2 FX4 k4
        go_wp2_with fail
        go_roundw
        case rel => exact ⟨k + 1, l, dO, calls + 1, by omega, by go_num, HJ'.out⟩
        case measure => simp [intOf]; omega
      · have he : (eO == 0) = true := by simpa using e1
        go_upto_region 21 with (go_at_call 16; go_loud (refine HLk.out.mono ?_); rintro e w4 ⟨rfl, FX4, k4⟩)
        have HB4 := Lib.hid (HL.out.kept HJd.out k4 (.inl rfl))
        have HO4 := Lib.hid (HOd.out.keep k4 (fun g hg hn => hn (.inr (.inr hg))))
        have HX4 := Lib.hid FX4
        clear FX4 k4 HLk HL HJd HOd
        have hWs : W.heap.size < w4.heap.size := Nat.lt_of_le_of_lt hWB HB4.out.lt
        go_upto_region 22 with (at_builtin; refine wpl_append rfl (.tmp 85) (.tmp 87) rfl tStr (HO4.out.keep ((Keeps.refl NoB _).alloc _) (fun _ _ h => h)) (own_lit (S := fun _ => True) [s] #[.string s] rfl 1 rfl trivial (by decide)).sl rfl rfl (by simp; have := HB4.out.lt; omega) (by simp [maxLen]; omega) (by simp; omega) ?_; intro v' w5 hv5 hk5 hf5)
        have ka : Keeps NoB w4 (w4.alloc (.cells #[.string s] 9)) := (Keeps.refl _ _).alloc _
        have HX5 := Lib.hid ((HX4.out.on ka).more2 (P' := fun g => g = WB ∨ v'.ownBlock = some g) hk5 (fun g hg => ⟨.inr hg, ((HO4.out.keep ka (fun _ _ h => h)).2 g hg).1⟩) (fun g hg => by
          rcases hg with hg | hg
          · exact .inl (.inl hg)
          · rcases hf5 g hg with h9 | h9
            · exact .inl (.inr h9)
            · exact .inr ⟨h9, hv5.lt g hg⟩))
        have HB5 := Lib.hid ((HB4.out.on ka).keep hk5 (fun hg => ((HO4.out.keep ka (fun _ _ h => h)).2 _ hg).2 rfl))
        have HO5 := Lib.hid hv5
        clear hv5 hk5 hf5 ka HX4 HB4 HO4
        have HJ' : Hid (LJ1 W w5 WB F a (k + 1) v' (l ++ [s]) dO (calls + 1)) := ⟨HX5.out, HB5.out, HO5.out, e2, by simp; omega, (fun x hx => by
          rcases List.mem_append.1 hx with hx | hx
          · exact HSZ.out x hx
          · simp only [List.mem_singleton] at hx; subst hx; exact Z5.out), HMN.out.1, HMN.out.2.1, HMN.out.2.2⟩
        clear e1 e2 HX5 HB5 HO5
        go_wp2_with fail
        go_roundw
        case rel => exact ⟨k + 1, l ++ [s], dO, calls + 1, by omega, by go_num, HJ'.out⟩
        case measure => simp [intOf]; omega

end Go.Proofs.YtjgapldpfdhioaaDoor
