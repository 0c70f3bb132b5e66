/-
  Layer 7's statements: the walk of FdPipes.
-/
import Derived.Test.YtjgapldpfdhioaaDoorC11

set_option linter.unusedSimpArgs false
set_option linter.unusedVariables false

set_option maxRecDepth 100000
set_option maxHeartbeats 8000000
namespace Go.Proofs.YtjgapldpfdhioaaDoor
open Go Go.RowKit

theorem ext_size (S : ByteArray) (a : Nat) : (S.extract a S.size).size = S.size - a := by
  rw [ByteArray.size_extract]; omega
theorem ext_app (S t : ByteArray) (a : Nat) (h : a ≤ S.size) : S.extract a S.size ++ t = (S ++ t).extract a (S ++ t).size := by
  apply ba_ext
  rw [ByteArray.data_append, Array.toList_append, data_extract, data_extract, ByteArray.data_append, Array.toList_append, List.take_of_length_le (by rw [len_data]; exact Nat.le_refl _),
    List.take_of_length_le (by rw [List.length_append, len_data, len_data, ByteArray.size_append]; exact Nat.le_refl _), List.drop_append_of_le_length (by rw [len_data]; exact h)]
theorem ext_take (S : ByteArray) (a n : Nat) (h : a + n ≤ S.size) : (S.extract a S.size).extract 0 n = S.extract a (a + n) := by
  apply ba_ext
  rw [data_extract, data_extract, data_extract, List.drop_zero, List.take_of_length_le (l := S.data.toList) (by rw [len_data]; exact Nat.le_refl _), List.take_drop]
theorem ext_drop (S : ByteArray) (a n : Nat) : (S.extract a S.size).extract n (S.extract a S.size).size = S.extract (a + n) S.size := by
  apply ba_ext
  rw [data_extract, data_extract, data_extract, List.take_of_length_le (l := S.data.toList) (by rw [len_data]; exact Nat.le_refl _), List.take_of_length_le (by
    rw [List.length_drop, len_data, ext_size]; exact Nat.le_refl _), List.drop_drop]

theorem pipes_any {S1 S2 : Nat → Prop} {W : World} {pl pm : Option Addr} {cl cm : Nat} {ls : List ByteArray} {ms : List Int} (h : SlAt encStr S1 W pl cl ls) (hm : SlAt encInt S2 W pm cm ms) (s : ByteArray) (hsz : s.size ≤ 9223372036854775807) :
    Calls Tryd.prog 3 #[.string s, .slice pl ls.length cl, .slice pm ms.length cm] W fun e w' => e = .returned (.bool true) ∧ Keeps NoB W w' := by
  have hcap := h.cap
  have hmax := h.max
  have hcap2 := hm.cap
  have hmax2 := hm.max
  unfold maxLen at hmax hmax2
  have HA := Lib.hid anchor7_any
  have hc : (1000 : Int) < (s.size : Int) ∨ (¬ (1000 : Int) < (s.size : Int) ∧ (60 : Int) < (ls.length : Int)) ∨ (¬ (1000 : Int) < (s.size : Int) ∧ ¬ (60 : Int) < (ls.length : Int) ∧ (60 : Int) < (ms.length : Int)) ∨ (¬ (1000 : Int) < (s.size : Int) ∧ ¬ (60 : Int) < (ls.length : Int) ∧ ¬ (60 : Int) < (ms.length : Int)) := by omega
  rcases hc with z | ⟨z, z2⟩ | ⟨z, z2, z3⟩ | ⟨z, z2, z3⟩
  · go_enter Tryd.func3, Tryd.ntmps3
    go_wp2_with (go_at_call 7; go_loud (refine (HA.out _).mono ?_); rintro e w1 ⟨rfl, hk1⟩)
    go_ret
    exact ⟨rfl, hk1⟩
  · go_enter Tryd.func3, Tryd.ntmps3
    go_wp2_with (go_at_call 7; go_loud (refine (HA.out _).mono ?_); rintro e w1 ⟨rfl, hk1⟩)
    go_ret
    exact ⟨rfl, hk1⟩
  · go_enter Tryd.func3, Tryd.ntmps3
    go_wp2_with (go_at_call 7; go_loud (refine (HA.out _).mono ?_); rintro e w1 ⟨rfl, hk1⟩)
    go_ret
    exact ⟨rfl, hk1⟩
  have HP := Lib.hid (fun wx : World => pipeNew_any wx s (by omega))
  go_enter Tryd.func3, Tryd.ntmps3
  go_upto_region 8 with (first | (go_at_call 7; go_loud (refine (HA.out _).mono ?_); rintro e w1 ⟨rfl, hk1⟩) | (go_at_call 8; go_loud (refine (HP.out _).mono ?_); rintro e w2 ⟨q, rfl, HQ, hk2⟩))
  have hle1 := hk1.size
  obtain ⟨v0, q0, ho0⟩ := HQ.ex
  have HJ0 : Hid (PipeAt (fun g => W.heap.size ≤ g) w2 q s 0 ∧ Keeps NoB W w2) := ⟨⟨⟨v0, q0, ho0.mono (fun g _ hg => ⟨Nat.le_trans hle1 hg.1, hg.2⟩)⟩, HQ.c1, HQ.fz, HQ.lt, Nat.le_trans hle1 HQ.inS, HQ.le, HQ.small⟩, hk1.trans hk2⟩
  have hs0 : s = s.extract 0 s.size := (ByteArray.extract_zero_size).symm
  have HS0 := Lib.hid hs0
  clear HA HP HQ hk1 hk2 q0 ho0 hle1 hs0
  go_wp2_with fail
  go_loopw [8, 34] (fun v i wr => ∃ (k : Nat) (S : ByteArray) (at' : Nat), k ≤ ls.length ∧ i = .int .i64 k ∧ v = .string (S.extract at' S.size) ∧ PipeAt (fun g => W.heap.size ≤ g) wr q S at' ∧ S.size ≤ 1000 + 1000 * k ∧ Keeps NoB W wr) (fun _ i _ => ls.length + 1 - (intOf i).toNat)
  case atStart => exact ⟨0, s, 0, Nat.zero_le _, rfl, by rw [← HS0.out], HJ0.out.1, by omega, HJ0.out.2⟩
  case round =>
    obtain ⟨k, S, at', hk, rfl, rfl, hP, hS, hK⟩ := hrel
    have HPi := Lib.hid hP
    have HK := Lib.hid hK
    have hle := hP.le
    clear hP hK HJ0 HS0
    by_cases hlt : k < ls.length
    · obtain ⟨t, ht⟩ : ∃ t, ls[k]? = some t := ⟨_, List.getElem?_eq_getElem hlt⟩
      obtain ⟨gb, off, rfl, _, hg, c0⟩ := (h.keepN HK.out).str ht
      clear ht
      by_cases z5 : 1000 < t.size
      · have z5' : (1000 : Int) < (t.size : Int) := by omega
        go_wp2_with fail
        go_ret
        exact ⟨rfl, HK.out⟩
      have z5' : ¬ (1000 : Int) < (t.size : Int) := by omega
      have hpe : pwErr S t at' = 0 := by unfold pwErr; rw [if_neg (by omega)]
      have HWr := Lib.hid (pipeWrite_any HPi.out (fun g hg => Nat.le_trans HK.out.size hg) t (by omega))
      rw [show pwTo S t at' = S ++ t by unfold pwTo; rw [if_pos hpe], hpe] at HWr
      have hsz2 : (S ++ t).size = S.size + t.size := ByteArray.size_append
      have hcc := ext_app S t at' hle
      have hws := ext_size S at'
      have hws2 := ext_size (S ++ t) at'
      have HTk := Lib.hid (fun n => ext_take (S ++ t) at' n)
      have HDr := Lib.hid (fun n => ext_drop (S ++ t) at' n)
      have hle2 : at' ≤ (S ++ t).size := by omega
      have hS2 : (S ++ t).size ≤ 1000 + 1000 * (k + 1) := by omega
      generalize S ++ t = S2 at *
      obtain ⟨wv, hwv⟩ : ∃ wv, S.extract at' S.size = wv := ⟨_, rfl⟩
      obtain ⟨wv2, hwv2⟩ : ∃ wv, S2.extract at' S2.size = wv := ⟨_, rfl⟩
      rw [hwv, hwv2] at hcc
      rw [hwv] at hws ⊢
      rw [hwv2] at hws2
      have hcat : (9223372036854775807 < wv.size + t.size) = False := by simp; omega
      clear hsz2 hpe hwv
      go_upto_region 17 with (go_at_call 9; go_loud (refine HWr.out.mono ?_); rintro e w3 ⟨rfl, HP3, hk3⟩)
      have HK3 := Lib.hid (HK.out.step hk3 (fun g hg => .inr hg))
      have H3 := Lib.hid HP3
      have hS2k := Lib.hid hS2
      clear HP3 hk3 HWr HPi HK c0 hcc hcat hws hS hg hS2
      by_cases hkm : k < ms.length
      · obtain ⟨x, hx⟩ : ∃ x, ms[k]? = some x := ⟨_, List.getElem?_eq_getElem hkm⟩
        obtain ⟨gm, om, rfl, _, hgm, hcm⟩ := (hm.keepN HK3.out).at hx
        have m0 := hcm 0 (.int .i64 x) rfl
        rw [show om + (k * encInt.k + 0) = om + k by show om + (k * 1 + 0) = om + k; omega] at m0
        have hgW : gm < W.heap.size ∨ True := .inr trivial
        obtain ⟨n, hn⟩ : ∃ n, rdN S2 at' x = n := ⟨_, rfl⟩
        have hnl : n ≤ S2.size - at' := by rw [← hn]; exact Nat.min_le_right _ _
        have hnw : n ≤ wv2.size := by omega
        have hmn : min (max x 0) (wv2.size : Int) = (n : Int) := by rw [← hn]; unfold rdN; omega
        have hx1 := HTk.out n (by omega)
        have hx2 := HDr.out n
        rw [hwv2] at hx1 hx2
        obtain ⟨rd, hrd⟩ : ∃ rd, S2.extract at' (at' + n) = rd := ⟨_, rfl⟩
        obtain ⟨wv3, hwv3⟩ : ∃ wv, S2.extract (at' + n) S2.size = wv := ⟨_, rfl⟩
        rw [hrd] at hx1
        rw [hwv3] at hx2
        have HRd := Lib.hid (fun (wx : World) (hp : PipeAt (fun g => W.heap.size ≤ g) wx q S2 at') => pipeRead_any hp x)
        rw [hn] at HRd
        rw [hrd] at HRd
        have HM := Lib.hid (fun (wx : World) (k' : Keeps NoB W wx) => (show wx.cell? ⟨gm, om + k, none⟩ = some (.int .i64 x) from by
          obtain ⟨g', o', e, _, _, t'⟩ := (hm.keepN k').at hx
          cases e
          have := t' 0 (.int .i64 x) rfl
          rwa [show om + (k * encInt.k + 0) = om + k by show om + (k * 1 + 0) = om + k; omega] at this))
        have HWS2 := Lib.hid hws2
        clear hcm hgm hn hrd hx hws2
        go_upto_region 19 with fail
        go_cut [70] from 61 to 70 (fun y wx => y = .bool false ∧ PipeAt (fun g => W.heap.size ≤ g) wx q S2 (at' + n) ∧ Keeps NoB W wx)
        case first =>
          have d0 : w3.drew.cell? ⟨gm, om + k, none⟩ = some (.int .i64 x) := m0
          have hd3 := H3.out.on (Keeps.refl NoB w3).drew
          have hkd := HK3.out.drew
          go_region_held3 (fun wz => wz.cell? ⟨gm, om + k, none⟩ = some (.int .i64 x)) (refine ?_ <;> with_reducible assumption)
            (first | (go_at_call 10; refine (HRd.out _ hd3).mono ?_; rintro e w4 ⟨rfl, HP4, k4⟩; have hk4 := hkd.step k4 (fun g hg => .inr (by rw [show g = q from hg]; exact H3.out.inS)); have z0 := HM.out _ hk4))
          all_goals (go_wp2_with fail; go_meet; exact ⟨by simp, HP4, hk4⟩)
        case rest =>
          obtain ⟨rfl, HP4, hk4⟩ := hcut
          have H4 := Lib.hid HP4
          have HK4 := Lib.hid hk4
          have HLf := Lib.hid (left_any HP4)
          rw [hwv3] at HLf
          clear HP4 hk4 H3 HK3 HM HRd m0
          go_upto_region 24 with (go_at_call 11; go_loud (refine HLf.out.mono ?_); rintro e w5 ⟨rfl, k5⟩)
          have H5 := Lib.hid (H4.out.on k5)
          have HK5 := Lib.hid (HK4.out.trans k5)
          clear H4 HK4 HLf k5
          go_wp2_with fail
          go_roundw
          case rel => exact ⟨k + 1, S2, at' + n, by omega, by go_num, by rw [hwv3], H5.out, hS2k.out, HK5.out⟩
          case measure => simp [intOf]; omega
      · have HLf := Lib.hid (left_any H3.out)
        rw [hwv2] at HLf
        clear hws2
        go_upto_region 24 with (go_at_call 11; go_loud (refine HLf.out.mono ?_); rintro e w5 ⟨rfl, k5⟩)
        have H5 := Lib.hid (H3.out.on k5)
        have HK5 := Lib.hid (HK3.out.trans k5)
        clear H3 HK3 HLf k5
        go_wp2_with fail
        go_roundw
        case rel => exact ⟨k + 1, S2, at', by omega, by go_num, by rw [hwv2], H5.out, hS2k.out, HK5.out⟩
        case measure => simp [intOf]; omega
    · obtain rfl : k = ls.length := by omega
      have hn : rdN S at' 1073741824 = S.size - at' := by unfold rdN; omega
      have HRd := Lib.hid (pipeRead_any HPi.out 1073741824)
      rw [hn, show at' + (S.size - at') = S.size by omega] at HRd
      have HLf := Lib.hid (fun (wx : World) (hp : PipeAt (fun g => W.heap.size ≤ g) wx q S S.size) => left_any hp)
      rw [show S.extract S.size S.size = ⟨#[]⟩ by apply ba_ext; rw [data_extract, List.drop_of_length_le (by rw [List.length_take, len_data]; omega)]] at HLf
      have hem := isEmpty_eq ⟨#[]⟩
      rw [decide_eq_true rfl] at hem
      generalize S.extract at' S.size = wv at *
      have hqW := Lib.hid HPi.out.inS
      clear HPi hn hle
      go_wp2_with (first | (go_at_call 10; go_loud (refine HRd.out.mono ?_); rintro e w4 ⟨rfl, HP4, k4⟩) | (go_at_call 11; go_loud (refine (HLf.out _ HP4).mono ?_); rintro e w5 ⟨rfl, k5⟩))
      go_ret
      exact ⟨rfl, (HK.out.step k4 (fun g hg => .inr (by rw [show g = q from hg]; exact hqW.out))).trans k5⟩

end Go.Proofs.YtjgapldpfdhioaaDoor
