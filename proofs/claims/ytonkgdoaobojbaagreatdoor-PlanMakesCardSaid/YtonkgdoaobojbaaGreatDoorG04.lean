/-
  Layers 12, 26: contracts: whether a text is lines; how much a part tells (exactly).
-/
import Derived.Test.YtonkgdoaobojbaaGreatDoorG03
import Derived.Test.YtonkgdoaobojbaaGreatDoorG02
import Derived.WalkLawsBesides
import Derived.Test.YtonkgdoaobojbaaGreatDoorG01
import Derived.Maps.OwnOps
import Derived.Maps.OwnSet
import Derived.WideKeyEntry
import Derived.BigQuiet
import Derived.StillTailTactics
import Derived.Deep.RegionHeld3

set_option linter.unusedSimpArgs false
set_option linter.unusedVariables false
set_option maxRecDepth 100000
set_option maxHeartbeats 8000000
namespace Go.Proofs.YtonkgdoaobojbaaGreatDoor
open Go Go.RowKit
theorem txB_last (s : ByteArray) (h1 : 1 <= s.size) (x : UInt8) (hx : s.data.toList[s.size - 1]? = some x) : txB s = (s.data.toList.all txC && decide (x = 10)) := by
 unfold txB txL
 rw [List.getLast?_eq_getElem?, show s.data.toList.length = s.size from len_data s, hx]
 simp
theorem all_take {l : List UInt8} {k : Nat} {b : UInt8} (hb : l[k]? = some b) (h : (l.take k).all txC = true) : (l.take (k + 1)).all txC = txC b := by
 rw [List.take_add_one, hb, List.all_append, h]
 simp
theorem text_ex (s : ByteArray) (hs : s.size <= 1000000) (h1 : 1 <= s.size) (w : World) : Calls Tryz.prog 65 #[.string s] w fun e w' => e = .returned (.bool (txB s)) ∧ Keeps NoB w w' := by
 have hconv := fun wx => Lib.run_convert_string_bytes (P := Tryz.prog) wx 9 58 5 s Tryz.underlying9 Tryz.underlying58 Tryz.underlying5
 have hl : s.data.toList.length = s.size := len_data s
 obtain ⟨hsl, hkc⟩ := conv_sl w s (by unfold maxLen; omega)
 have HL := Lib.hid hsl
 have HK := Lib.hid hkc
 have hcp := hsl.cap
 have hmx := hsl.max
 unfold maxLen at hmx
 rw [hl] at hcp
 obtain ⟨x, hx⟩ : ∃ x, s.data.toList[s.size - 1]? = some x := ⟨_, List.getElem?_eq_getElem (by rw [hl]; omega)⟩
 have hlast := fun wx => idx_str s (s.size - 1) ((s.size : Int) - 1) (by omega) x hx wx
 have HX := Lib.hid (txB_last s h1 x hx)
 have hne : s.toList.isEmpty = false := by
  rw [Lib.toList_data]
  rcases h : s.data.toList with _ | _
  ·rw [h] at hl; simp at hl; omega
  ·rfl
 have HXn : Hid (decide (x = 10) = ((x.toNat : Int) == 10)) := Lib.hid (by rw [byte_eq x 10 (by decide) (by decide)]; rfl)
 generalize x.toNat = lst at *
 clear hsl hkc hx
 go_enter Tryz.func65, Tryz.ntmps65
 go_upto_region 2 with fail
 clear hconv
 generalize grownCap w s.size 0 5 = cp at *
 generalize Lib.bytesWorld w 5 s = w2 at *
 go_loop [8] (fun i => ∃ k : Nat, k <= s.size ∧ i = .int .i64 k ∧ Hid ((s.data.toList.take k).all txC = true)) (fun i => s.size + 1 - (intOf i).toNat)
 case atStart => exact ⟨0, Nat.zero_le _, rfl, Lib.hid rfl⟩
 case round =>
  obtain ⟨k, hk, rfl, hI⟩ := hrel
  by_cases hlt : k < s.size
  ·obtain ⟨b, hb⟩ : ∃ b, s.data.toList[k]? = some b := ⟨_, List.getElem?_eq_getElem (by rw [hl]; exact hlt)⟩
   have t0 : w2.cell? ⟨w.heap.size, k, none⟩ = some (.int .u8 (b.toNat : Int)) := by
    obtain ⟨g, off, e, _, _, hcc⟩ := HL.out.at hb
    cases e
    have := hcc 0 _ rfl
    simpa [encU8] using this
   by_cases hc : txC b = true
   ·have HN : Hid ((s.data.toList.take (k + 1)).all txC = true) := Lib.hid ((all_take hb hI.out).trans hc)
    have hc' : (b = 9 ∨ b = 10) ∨ (32 <= b.toNat ∧ b.toNat <= 126) := by simpa [txC] using hc
    have hcc : (b.toNat : Int) = 9 ∨ (b.toNat : Int) = 10 ∨ (32 <= (b.toNat : Int) ∧ (b.toNat : Int) <= 126) := by
     rcases hc' with (rfl | rfl) | h
     ·exact .inl rfl
     ·exact .inr (.inl rfl)
     ·exact .inr (.inr (by omega))
    clear hb hc hc'
    generalize (b.toNat : Int) = bn at *
    rcases hcc with rfl | rfl | ⟨hc1, hc2⟩
    ·go_wp2
     go_round
     case rel => exact ⟨k + 1, by omega, by go_num, HN⟩
     case measure => (simp [intOf]) <;> omega
    ·go_wp2
     go_round
     case rel => exact ⟨k + 1, by omega, by go_num, HN⟩
     case measure => (simp [intOf]) <;> omega
    ·have n1 : ¬ bn < 32 := by omega
     have n2 : ¬ 126 < bn := by omega
     go_wp2
     go_round
     case rel => exact ⟨k + 1, by omega, by go_num, HN⟩
     case measure => (simp [intOf]) <;> omega
   ·have HF : Hid (txB s = false) := Lib.hid (by
     rw [HX.out, Bool.and_eq_false_iff]
     refine .inl ?_
     rw [Bool.eq_false_iff]
     intro h
     exact hc (List.all_eq_true.1 h b (List.mem_of_getElem? hb)))
    have hc' : b ≠ 9 ∧ b ≠ 10 ∧ (b.toNat < 32 ∨ 126 < b.toNat) := by
     have h3 : ¬ ((b = 9 ∨ b = 10) ∨ (32 <= b.toNat ∧ b.toNat <= 126)) := by simpa [txC] using hc
     refine ⟨fun e => h3 (.inl (.inl e)), fun e => h3 (.inl (.inr e)), ?_⟩
     by_cases h4 : 32 <= b.toNat
     ·exact .inr (Nat.lt_of_not_le fun h5 => h3 (.inr ⟨h4, h5⟩))
     ·exact .inl (Nat.lt_of_not_le h4)
    have n9 : ((b.toNat : Int) != 9) = true := by rw [bne, byte_eq b 9 (by decide) (by decide), Bool.not_eq_true', decide_eq_false_iff_not]; exact hc'.1
    have n10 : ((b.toNat : Int) != 10) = true := by rw [bne, byte_eq b 10 (by decide) (by decide), Bool.not_eq_true', decide_eq_false_iff_not]; exact hc'.2.1
    have hcc : (b.toNat : Int) < 32 ∨ (¬ (b.toNat : Int) < 32 ∧ 126 < (b.toNat : Int)) := by omega
    clear hb hc hc'
    generalize (b.toNat : Int) = bn at *
    rcases hcc with hc1 | ⟨hc1, hc2⟩
    all_goals
     go_wp2
     go_ret
     rw [HF.out]
     exact ⟨rfl, HK.out⟩
  ·obtain rfl : k = s.size := by omega
   have HT : Hid (txB s = ((lst : Int) == 10)) := Lib.hid (by
    rw [HX.out, HXn.out]
    have := hI.out
    rw [List.take_of_length_le (Nat.le_of_eq hl)] at this
    rw [this, Bool.true_and])
   rcases hq : ((lst : Int) == 10) with _ | _
   all_goals
    go_wp2
    go_ret
    refine ⟨ret_bool ?_, HK.out⟩
    rw [HT.out, hq]
theorem libx (s : ByteArray) (c : UInt8) (w : World) (hz : s.size <= 1000000) : Calls Tryz.prog 97 #[.string s, .int .u8 (c.toNat : Int)] w fun e w' => e = .returned (.int .i64 (lastI s c s.size)) ∧ w = w' := by
 obtain ⟨P, hP⟩ : ∃ P, lastI s c s.size = P := ⟨_, rfl⟩
 rw [hP]
 have HP := Lib.hid hP
 clear hP
 go_enter Tryz.func97, Tryz.ntmps97
 go_wp2
 go_loop [5] (fun v => ∃ k : Int, v = .int .i64 k ∧ -1 <= k ∧ k < s.size ∧ Hid (lastI s c (k + 1).toNat = P)) (fun v => (intOf v + 1).toNat)
 case atStart => exact ⟨(s.size : Int) - 1, by go_num, by omega, by omega, by rw [show ((s.size : Int) - 1 + 1).toNat = s.size by omega]; exact HP⟩
 case round =>
  obtain ⟨k, rfl, h1, h2, hI⟩ := hrel
  by_cases h0 : 0 <= k
  ·obtain ⟨j, rfl⟩ : ∃ j : Nat, k = j := ⟨k.toNat, by omega⟩
   have hj : j < s.size := by omega
   obtain ⟨z, hzz⟩ : ∃ z, s[j] = z := ⟨_, rfl⟩
   have hjl : s.data.toList[j]? = some z := by
    rw [List.getElem?_eq_getElem (by rw [len_data]; exact hj), <- hzz]
    rfl
   have hI2 := hI.out
   rw [show ((j : Int) + 1).toNat = j + 1 by omega, lastI, hjl] at hI2
   clear hI
   by_cases hc : z = c
   ·subst hc
    rw [if_pos rfl] at hI2
    have HR := Lib.hid hI2
    clear hI2 hjl
    go_wp2
    go_ret
    exact ⟨congrArg (fun x : Int => Ending.returned (Value.int .i64 x)) HR.out, rfl⟩
   ·have hb : ((z.toNat : Int) == (c.toNat : Int)) = false := by
     rw [beq_eq_false_iff_ne]
     intro e
     exact hc (UInt8.toNat_inj.1 (by omega))
    rw [if_neg (by simpa using hc)] at hI2
    have HR : Hid (lastI s c ((j : Int) - 1 + 1).toNat = P) := Lib.hid (by rw [show ((j : Int) - 1 + 1).toNat = j by omega]; exact hI2)
    clear hc hI2 hjl
    go_wp2
    go_round
    case rel => exact ⟨(j : Int) - 1, by go_num, by omega, by omega, HR⟩
    case measure => first | (simp [intOf]; done) | (simp [intOf]; omega)
  ·obtain rfl : k = -1 := by omega
   have HR : Hid (-1 = P) := hI
   clear hI
   go_wp2
   go_ret
   exact ⟨congrArg (fun x : Int => Ending.returned (Value.int .i64 x)) HR.out, rfl⟩
theorem lastx (s : ByteArray) (c : UInt8) (w : World) (hz : s.size <= 1000000) : Calls Tryz.prog 64 #[.string s, .int .u8 (c.toNat : Int)] w fun e w' => e = .returned (.int .i64 (lastI s c s.size)) ∧ w = w' := by
 have H := Lib.hid (libx s c w hz)
 generalize lastI s c s.size = r at *
 go_enter Tryz.func64, Tryz.ntmps64
 go_wp2_with (go_at_call 97; go_loud (refine H.out.mono ?_); rintro e w1 ⟨rfl, rfl⟩)
 go_ret
 exact ⟨rfl, rfl⟩
theorem first_ex (s : ByteArray) (hs : s.size <= 1000000) (h1 : 1 <= s.size) (w : World) : Calls Tryz.prog 40 #[.string s] w fun e w' => e = .returned (.int .i64 ((fstN s : Nat) : Int)) ∧ Keeps NoB w w' := by
 obtain ⟨N, hNd, hN, hN1, hN2, hN3⟩ : ∃ N : Nat, min s.size 20000 = N ∧ min (s.size : Int) 20000 = (N : Int) ∧ 1 <= N ∧ N <= s.size ∧ N <= 20000 := ⟨min s.size 20000, rfl, by omega, by omega, by omega, by omega⟩
 obtain ⟨x, hx⟩ : ∃ x, s.extract 0 N = x := ⟨_, rfl⟩
 have hxs : x.size = N := by rw [<- hx, ByteArray.size_extract]; omega
 have hli : lastI x 10 x.size = lastI s 10 N := by rw [hxs, <- hx]; exact lastI_extract s 10 N hN2 N (Nat.le_refl _)
 have hLs := fun w1 : World => lastx x 10 w1 (by omega)
 rw [hli] at hLs
 have HLs := Lib.hid hLs
 have HT := Lib.hid (fun (i : Nat) (hi : i < N) (w1 : World) => text_ex (s.extract 0 (i + 1)) (by rw [ByteArray.size_extract]; omega) (by rw [ByteArray.size_extract]; omega) w1)
 have hNI : (N : Int) <= (s.size : Int) := by omega
 have hr := lastI_range s 10 N
 have hF : fstN s = if 0 <= lastI s 10 N ∧ txB (s.extract 0 ((lastI s 10 N).toNat + 1)) = true then (lastI s 10 N).toNat + 1 else N := by unfold fstN; rw [hNd]
 have HF := Lib.hid hF
 have h0 : (s.size : Int) <= 1000000 := by omega
 have hN2' : (N : Int) <= 20000 := by omega
 clear hN1 hN2 hN3 hxs hLs hli hF hNd
 generalize lastI s 10 N = r at *
 obtain ⟨hr1, hr2⟩ := hr
 go_enter Tryz.func40, Tryz.ntmps40
 go_upto_region 3 with (go_at_call 64; go_loud (refine (HLs.out _).mono ?_); rintro e w1 ⟨rfl, rfl⟩)
 by_cases hneg : r < 0
 ·have hneg' : ¬ 0 <= r := by omega
  go_wp2
  go_ret
  rw [HF.out, if_neg (fun h => by have := h.1; omega)]
  exact ⟨rfl, Keeps.refl _ _⟩
 ·obtain ⟨i, rfl⟩ : ∃ i : Nat, r = i := ⟨r.toNat, by omega⟩
  have hi : i < N := by omega
  have HTi := Lib.hid (HT.out i hi)
  have hi1 : (i : Int) + 1 <= (s.size : Int) := by omega
  have hi2 : (0 : Int) <= (i : Int) := by omega
  have hF2 := HF.out
  rw [show ((i : Int)).toNat = i from rfl] at hF2
  have HF2 := Lib.hid hF2
  clear hF2
  generalize hb : txB (s.extract 0 (i + 1)) = b at *
  have hi0 := Int.natCast_nonneg i
  cases b with
  | true =>
    have HF3 : Hid (fstN s = i + 1) := Lib.hid (by rw [HF2.out, if_pos (by simp)])
    go_wp2_with (go_at_call 65; go_loud (refine (HTi.out _).mono ?_); rintro e w2 ⟨rfl, hk2⟩)
    go_ret
    rw [HF3.out]
    exact ⟨rfl, hk2⟩
  | false =>
    have HF3 : Hid (fstN s = N) := Lib.hid (by rw [HF2.out, if_neg (by simp)])
    go_wp2_with (go_at_call 65; go_loud (refine (HTi.out _).mono ?_); rintro e w2 ⟨rfl, hk2⟩)
    go_ret
    rw [HF3.out]
    exact ⟨rfl, hk2⟩
def quoW (a b : Nat) : Nat := (floatBits .quo .f64 (floatOfInt .f64 (a : Int)) (floatOfInt .f64 (b : Int))).getD 0
theorem quo_lt (a b : Nat) (ha1 : 1 <= a) (ha2 : a < 4503599627370496) (hb1 : 1 <= b) (hb2 : b < 4503599627370496) : quoW a b < 9218868437227405312 ∧ floatBits .quo .f64 (floatOfInt .f64 (a : Int)) (floatOfInt .f64 (b : Int)) = some (quoW a b) := by
 obtain ⟨r, hr, hl⟩ := share_fin a b ha1 ha2 hb1 hb2
 have e1 : floatOfInt .f64 (a : Int) = Ieee.double.nearest false a 0 := by
  show Ieee.double.nearest (decide ((a : Int) < 0)) ((a : Int)).natAbs 0 = _
  rw [decide_eq_false (by omega), Int.natAbs_natCast]
 have e2 : floatOfInt .f64 (b : Int) = Ieee.double.nearest false b 0 := by
  show Ieee.double.nearest (decide ((b : Int) < 0)) ((b : Int)).natAbs 0 = _
  rw [decide_eq_false (by omega), Int.natAbs_natCast]
 unfold quoW
 rw [e1, e2]
 rw [show floatBits .quo .f64 (Ieee.double.nearest false a 0) (Ieee.double.nearest false b 0) = some r from hr]
 exact ⟨hl, rfl⟩
theorem share_ex (a b : Nat) (ha1 : 1 <= a) (ha2 : a < 4503599627370496) (hb1 : 1 <= b) (hb2 : b < 4503599627370496) (w : World) :
 Calls Tryz.prog 61 #[.int .i64 (a : Int), .int .i64 (b : Int)] w fun e w' => e = .returned (.float .f64 (quoW a b)) ∧ w = w' := by
 have hq := fun wx => run_float_arith (P := Tryz.prog) wx .quo 59 .f64 _ _ _ (quo_lt a b ha1 ha2 hb1 hb2).2
 generalize quoW a b = r at *
 have q1 : (Tryz.prog.underlying 3).isSome = true := by kernel_rfl
 have q2 : Tryz.prog.underlying 59 = some (.float .f64) := by kernel_rfl
 clear ha1 ha2 hb1 hb2
 go_enter Tryz.func61, Tryz.ntmps61
 go_wp2
 go_ret
 exact ⟨rfl, rfl⟩
theorem nan_any (w : World) : Calls Tryz.prog 101 #[] w fun e w' => e = .returned (.float .f64 nanW) ∧ w = w' := by
 go_enter Tryz.func101, Tryz.ntmps101
 go_wp2
 rw [run_callFunc_extern Tryz.func124 (by kernel_rfl) (by kernel_rfl) (by kernel_rfl) (e := Extern.MathFloatBits.float64frombits) (by kernel_rfl)]
 rw [show (Extern.MathFloatBits.float64frombits #[.int .u64 9221120237041090561]).run Tryz.prog w = .ok (.float .f64 9221120237041090561) w from rfl]
 simp only [Result.andThen]
 rw [Oper.upon_value]
 go_wp2
 go_ret
 exact ⟨rfl, rfl⟩
def costW (way : Int) (s : ByteArray) : Nat :=
 if way = 1 then (if txB s = true then quoW s.size s.size else 9218868437227405312)
 else if way = 2 then quoW (uuSize s.size) s.size
 else if way = 3 then (if s.size <= 256 then quoW (escL s.data.toList).length s.size else 9218868437227405312)
 else nanW
theorem escL_pos {l : List UInt8} (h : 1 <= l.length) : 1 <= (escL l).length := by
 rcases l with _ | ⟨c, l⟩
 ·simp at h
 ·rw [show escL (c :: l) = escC c ++ escL l by unfold escL; rw [List.flatMap_cons], List.length_append, escC_len]
  split <;> omega
theorem escL_four (l : List UInt8) : (escL l).length <= 4 * l.length := escL_le l
theorem uuSize_pos (n : Nat) : 1 <= uuSize n := by unfold uuSize; omega
theorem cost_okW (way : Int) (s : ByteArray) (h1 : 1 <= s.size) (hs : s.size <= 1000000) : okW (costW way s) := by
 have hl := len_data s
 have he := escL_pos (l := s.data.toList) (by omega)
 have he2 := escL_four s.data.toList
 have hu := uuSize_le s.size
 unfold costW
 split
 ·split
  ·exact .inl (Nat.le_of_lt (quo_lt _ _ h1 (by omega) h1 (by omega)).1)
  ·exact .inl (Nat.le_refl _)
 ·split
  ·exact .inl (Nat.le_of_lt (quo_lt _ _ (uuSize_pos _) (by omega) h1 (by omega)).1)
  ·split
   ·split
    ·exact .inl (Nat.le_of_lt (quo_lt _ _ he (by omega) h1 (by omega)).1)
    ·exact .inl (Nat.le_refl _)
   ·exact .inr rfl
theorem cost_ex (way : Int) (s : ByteArray) (h1 : 1 <= s.size) (hs : s.size <= 1000000) (w : World) :
 Calls Tryz.prog 66 #[.int .i64 way, .string s] w fun e w' => e = .returned (.float .f64 (costW way s)) ∧ Keeps NoB w w' := by
 have HI := Lib.hid (fun w1 : World => inf_any w1)
 have hl := len_data s
 by_cases hw1 : way = 1
 ·subst hw1
  have HT := Lib.hid (fun w1 : World => text_ex s hs h1 w1)
  have HS := Lib.hid (fun w1 : World => share_ex s.size s.size h1 (by omega) h1 (by omega) w1)
  have hc : costW 1 s = if txB s = true then quoW s.size s.size else 9218868437227405312 := rfl
  rw [hc]
  clear hc hs h1 hl
  generalize quoW s.size s.size = r at *
  generalize txB s = b at *
  cases b
  all_goals
   go_enter Tryz.func66, Tryz.ntmps66
   go_wp2_with (first | (go_at_call 98; go_loud (refine (HI.out _).mono ?_); rintro e w1 ⟨rfl, rfl⟩) | (go_at_call 65; go_loud (refine (HT.out _).mono ?_); rintro e w2 ⟨rfl, hk2⟩) | (go_at_call 61; go_loud (refine (HS.out _).mono ?_); rintro e w3 ⟨rfl, rfl⟩))
   go_ret
   exact ⟨rfl, hk2⟩
 ·by_cases hw2 : way = 2
  ·subst hw2
   have HE := Lib.hid (fun w1 : World => encoded_any s.size hs w1)
   have HS := Lib.hid (fun w1 : World => share_ex (uuSize s.size) s.size (uuSize_pos _) (by have := uuSize_le s.size; omega) h1 (by omega) w1)
   have hc : costW 2 s = quoW (uuSize s.size) s.size := rfl
   rw [hc]
   clear hc hs h1 hl hw1
   generalize quoW (uuSize s.size) s.size = r at *
   generalize uuSize s.size = m at *
   go_enter Tryz.func66, Tryz.ntmps66
   go_wp2_with (first | (go_at_call 98; go_loud (refine (HI.out _).mono ?_); rintro e w1 ⟨rfl, rfl⟩) | (go_at_call 99; go_loud (refine (HE.out _).mono ?_); rintro e w2 ⟨rfl, rfl⟩) | (go_at_call 61; go_loud (refine (HS.out _).mono ?_); rintro e w3 ⟨rfl, rfl⟩))
   go_ret
   exact ⟨rfl, Keeps.refl _ _⟩
  ·by_cases hw3 : way = 3
   ·subst hw3
    have hc : costW 3 s = if s.size <= 256 then quoW (escL s.data.toList).length s.size else 9218868437227405312 := rfl
    rw [hc]
    by_cases h256 : s.size <= 256
    ·rw [if_pos h256]
     have HE := Lib.hid (fun w1 : World => fEscaped_any s w1 (by omega))
     have HS := Lib.hid (fun w1 : World => share_ex (escL s.data.toList).length s.size (escL_pos (by omega)) (by have := escL_four s.data.toList; omega) h1 (by omega) w1)
     have h6 : ¬ (256 : Int) < (s.size : Int) := by omega
     clear hc hs h1 hl hw1 hw2 h256
     generalize quoW (escL s.data.toList).length s.size = r at *
     generalize (escL s.data.toList).length = m at *
     go_enter Tryz.func66, Tryz.ntmps66
     go_wp2_with (first | (go_at_call 98; go_loud (refine (HI.out _).mono ?_); rintro e w1 ⟨rfl, rfl⟩) | (go_at_call 100; go_loud (refine (HE.out _).mono ?_); rintro e w2 ⟨rfl, hk2⟩) | (go_at_call 61; go_loud (refine (HS.out _).mono ?_); rintro e w3 ⟨rfl, rfl⟩))
     go_ret
     exact ⟨rfl, hk2⟩
    ·rw [if_neg h256]
     have h6 : (256 : Int) < (s.size : Int) := by omega
     clear hc hs h1 hl hw1 hw2 h256
     go_enter Tryz.func66, Tryz.ntmps66
     go_wp2_with (go_at_call 98; go_loud (refine (HI.out _).mono ?_); rintro e w1 ⟨rfl, rfl⟩)
     go_ret
     exact ⟨rfl, Keeps.refl _ _⟩
   ·have HN := Lib.hid (fun w1 : World => nan_any w1)
    have hc : costW way s = nanW := by unfold costW; rw [if_neg hw1, if_neg hw2, if_neg hw3]
    rw [hc]
    have b1 : (way == 1) = false := by simpa using hw1
    have b2 : (way == 2) = false := by simpa using hw2
    have b3 : (way == 3) = false := by simpa using hw3
    clear hc hs h1 hl hw1 hw2 hw3
    go_enter Tryz.func66, Tryz.ntmps66
    go_wp2_with (first | (go_at_call 98; go_loud (refine (HI.out _).mono ?_); rintro e w1 ⟨rfl, rfl⟩) | (go_at_call 101; go_loud (refine (HN.out _).mono ?_); rintro e w2 ⟨rfl, rfl⟩))
    go_ret
    exact ⟨rfl, Keeps.refl _ _⟩
def bestP (ws : List Int) (s : ByteArray) : Int × Int :=
 match leastK (ws.map (fun x => costW x s)) ws.length with
 | none => (0, 12)
 | some b => if (ws.map (fun x => costW x s)).getD b 0 < 9218868437227405312 then (ws.getD b 0, 0) else (0, 43)
theorem best_ex (s : ByteArray) (h1 : 1 <= s.size) (hs : s.size <= 1000000) (ws : List Int) (hw1 : 1 <= ws.length) (hw2 : ws.length <= 1000) (w : World) {S : Nat -> Prop} {p : Option Addr} {c : Nat} (hS : SlAt encInt S w p c ws) :
 Calls Tryz.prog 41 #[.string s, .slice p ws.length c] w fun e w' => e = .returned (.tuple #[.int .i64 (bestP ws s).1, .int .i64 (bestP ws s).2]) ∧ Keeps NoB w w' := by
 obtain ⟨cs, hcs⟩ : ∃ cs, ws.map (fun x => costW x s) = cs := ⟨_, rfl⟩
 have hcl : cs.length = ws.length := by rw [<- hcs, List.length_map]
 have hck : ∀ (i : Nat) x, cs[i]? = some x -> okW x := fun i x hx => by
  rw [<- hcs, List.getElem?_map] at hx
  rcases h : ws[i]? with _ | y
  ·rw [h] at hx; cases hx
  ·rw [h] at hx
   cases hx
   exact cost_okW _ _ h1 hs
 have HCK := Lib.hid hck
 have HC := Lib.hid (fun (y : Int) (w1 : World) => cost_ex y s h1 hs w1)
 have hcp := hS.cap
 have hmx := hS.max
 unfold maxLen at hmx
 have HS := Lib.hid hS
 have hne : s.toList.isEmpty = false := by
  have hl := len_data s
  rw [Lib.toList_data]
  rcases h : s.data.toList with _ | _
  ·rw [h] at hl; simp at hl; omega
  ·rfl
 have hat : ∀ (k : Nat) y, ws[k]? = some y -> cs[k]? = some (costW y s) := fun k y hy => by rw [<- hcs, List.getElem?_map, hy]; rfl
 have HAt := Lib.hid hat
 have HB : Hid (bestP ws s = match leastK cs cs.length with | none => (0, 12) | some b => if cs.getD b 0 < 9218868437227405312 then (ws.getD b 0, 0) else (0, 43)) := Lib.hid (by unfold bestP; rw [hcs, hcl])
 have HCl : Hid (cs.length = ws.length) := Lib.hid hcl
 generalize hBd : bestP ws s = B at *
 clear hcs hck hat hS hBd hcl
 go_enter Tryz.func41, Tryz.ntmps41
 go_wp2
 go_loopw [6, 12] (fun v i wr => ∃ k : Nat, k <= ws.length ∧ i = .int .i64 k ∧ Own encFl 59 (fun g => w.heap.size <= g) wr v (cs.take k) ∧ Keeps NoB w wr) (fun _ i _ => ws.length + 1 - (intOf i).toNat)
 case atStart => exact ⟨0, Nat.zero_le _, rfl, Own.nil _ _ _ _, Keeps.refl _ _⟩
 case round =>
  rename World => wr
  obtain ⟨k, hk, rfl, hown, hkr⟩ := hrel
  by_cases hlt : k < ws.length
  ·obtain ⟨y, hy⟩ : ∃ y, ws[k]? = some y := ⟨_, List.getElem?_eq_getElem hlt⟩
   have hcy := HAt.out k y hy
   obtain ⟨g, o, rfl, _, hgl, c0⟩ := HS.out.num hy
   have a0 : wr.cell? ⟨g, o + k, none⟩ = some (.int .i64 y) := (hkr.cell (p := ⟨g, o + k, none⟩) hgl (fun h => h)).trans c0
   have HCy := Lib.hid (HC.out y)
   have HOwn := Lib.hid hown
   have HKr := Lib.hid hkr
   have HT : Hid (cs.take k ++ [costW y s] = cs.take (k + 1)) := Lib.hid (by rw [List.take_add_one, hcy]; rfl)
   have hlen : (cs.take k).length <= 1000 := by have := HCl.out; rw [List.length_take]; omega
   have HLen := Lib.hid hlen
   clear hy hcy c0 hown hkr hlen
   generalize costW y s = r at *
   generalize cs.take k = l0 at *
   go_wp2_with (first | (go_at_call 66; go_loud (refine (HCy.out _).mono ?_); rintro e w1 ⟨rfl, hk1⟩; have ho1 := Lib.hid (HOwn.out.keep hk1 (fun _ _ h => h)); have HK1 := Lib.hid (HKr.out.trans hk1); have HLit := Lib.hid (own_lit (E := encFl) (e := 59) (w := w1) (S := fun _ => True) [r] #[.float .f64 r] rfl 1 rfl trivial (by decide)); clear hk1) | (at_builtin; go_loud (refine wpl_append rfl (.tmp 16) (.tmp 20) rfl tF64 (ho1.out.keep (F := NoB) ((Keeps.refl _ _).alloc _) (fun _ _ h => h)) HLit.out.sl rfl rfl (by have := HK1.out.size; simp; omega) (by have := HLen.out; simp [maxLen]; omega) (by have := HLen.out; simp; omega) ?_)))
   intro v' w4 ho4 hk4 hf4
   go_wp2_with fail
   go_roundw
   case rel =>
    rw [HT.out] at ho4
    exact ⟨k + 1, by omega, by go_num, ho4, (HK1.out.alloc _).step hk4 (fun g hg => .inr (by have h1 := ho1.out.2 g hg; exact h1))⟩
   case measure => (simp [intOf]) <;> omega
  ·obtain rfl : k = ws.length := by omega
   rw [<- HCl.out, List.take_length] at hown
   obtain ⟨gb, cap, cur, rfl, _, hcb, hc1, hc2, _, _⟩ := hown.row (show 0 < cs.length by rw [HCl.out]; omega)
   have hatc := hown.at
   have HLe := Lib.hid (least_any cs wr hatc HCK.out)
   obtain ⟨b, hb⟩ := leastK_some cs cs.length (by rw [HCl.out]; omega)
   have hbl := leastK_lt cs cs.length b hb
   obtain ⟨x, hx⟩ : ∃ x, cs[b]? = some x := ⟨_, List.getElem?_eq_getElem hbl⟩
   have hxd : cs.getD b 0 = x := by simp [List.getD, hx]
   obtain ⟨g', off, he, _, _, hcc⟩ := hatc.fl hx
   cases he
   rw [Nat.zero_add] at hcc
   have fl := lt_of_cell hcc
   obtain ⟨y, hy⟩ : ∃ y, ws[b]? = some y := ⟨_, List.getElem?_eq_getElem (by rw [<- HCl.out]; exact hbl)⟩
   have hyd : ws.getD b 0 = y := by simp [List.getD, hy]
   obtain ⟨g, o, rfl, _, hgl, c0⟩ := HS.out.num hy
   have a0 : wr.cell? ⟨g, o + b, none⟩ = some (.int .i64 y) := (hkr.cell (p := ⟨g, o + b, none⟩) hgl (fun h => h)).trans c0
   have HIn := Lib.hid (fun w1 : World => isInf_ok x (HCK.out b x hx) w1)
   have HNa := Lib.hid (fun w1 : World => isNaN_ok x (HCK.out b x hx) w1)
   have HKr := Lib.hid hkr
   have HB2 := HB.out
   rw [hb] at HB2
   simp only [hxd, hyd] at HB2
   have HB3 := Lib.hid HB2
   rw [hb, show leastI (some b) = (b : Int) from rfl] at HLe
   have hbi : (b : Int) < (cs.length : Int) := by omega
   have hbw : (b : Int) < (ws.length : Int) := by rw [<- HCl.out]; exact hbi
   have hb0 : ¬ (b : Int) < 0 := by omega
   have hxo := Lib.hid (HCK.out b x hx)
   rw [<- HCl.out] at *
   unfold maxLen at hc2
   clear hown hkr hatc hcb hb hx hxd hy hyd c0 HB2 HC HCK HAt HB
   rcases Nat.lt_trichotomy x 9218868437227405312 with hlt | heq | hgt
   ·rw [decide_eq_false (by omega)] at HIn HNa
    have HB4 : Hid (B = (y, 0)) := Lib.hid (HB3.out.trans (by rw [if_pos hlt]))
    clear hlt
    go_wp2_with (first | (go_at_call 67; go_loud (refine HLe.out.mono ?_); rintro e w1 ⟨rfl, rfl⟩) | (go_at_call 68; go_loud (refine (HIn.out _).mono ?_); rintro e w2 ⟨rfl, rfl⟩) | (go_at_call 69; go_loud (refine (HNa.out _).mono ?_); rintro e w3 ⟨rfl, rfl⟩))
    go_ret2
    rw [HB4.out]
    exact ⟨rfl, HKr.out⟩
   ·rw [decide_eq_true heq] at HIn
    have HB4 : Hid (B = (0, 43)) := Lib.hid (HB3.out.trans (by rw [if_neg (by omega)]))
    clear heq
    go_wp2_with (first | (go_at_call 67; go_loud (refine HLe.out.mono ?_); rintro e w1 ⟨rfl, rfl⟩) | (go_at_call 68; go_loud (refine (HIn.out _).mono ?_); rintro e w2 ⟨rfl, rfl⟩) | (go_at_call 69; go_loud (refine (HNa.out _).mono ?_); rintro e w3 ⟨rfl, rfl⟩))
    go_ret2
    rw [HB4.out]
    exact ⟨rfl, HKr.out⟩
   ·rw [decide_eq_false (by omega)] at HIn
    rw [decide_eq_true hgt] at HNa
    have HB4 : Hid (B = (0, 43)) := Lib.hid (HB3.out.trans (by rw [if_neg (by omega)]))
    clear hgt
    go_wp2_with (first | (go_at_call 67; go_loud (refine HLe.out.mono ?_); rintro e w1 ⟨rfl, rfl⟩) | (go_at_call 68; go_loud (refine (HIn.out _).mono ?_); rintro e w2 ⟨rfl, rfl⟩) | (go_at_call 69; go_loud (refine (HNa.out _).mono ?_); rintro e w3 ⟨rfl, rfl⟩))
    go_ret2
    rw [HB4.out]
    exact ⟨rfl, HKr.out⟩
end Go.Proofs.YtonkgdoaobojbaaGreatDoor
namespace Go.Proofs.YtonkgdoaobojbaaGreatDoor
open Go Go.RowKit Ieee
def isNan (x : Nat) : Prop := ∃ b n, double.read x = .nan b n
theorem nan_order_l {x : Nat} (h : isNan x) (y : Nat) : double.order x y = none := by
 obtain ⟨b, n, e⟩ := h
 show (double.read x).order (double.read y) = none
 rw [e]
 rfl
def okN (x : Nat) : Prop := x <= 9218868437227405312 ∨ isNan x
def nrmW (x : Nat) : Nat := if x <= 9218868437227405312 then x else nanW
theorem nan_big {x : Nat} (h : isNan x) : ¬ x <= 9218868437227405312 := fun hx => by
 have h1 := nan_order_l h x
 rw [order_eq hx] at h1
 cases h1
def clsW (x : Nat) : Int := if x <= 9218868437227405312 then (if x = 9218868437227405312 then 5 else if x = 0 then 3 else 4) else 6
theorem class_any (x : Nat) (hx : okN x) (w : World) : Calls Tryz.prog 37 #[.float .f64 x] w fun e w' => e = .returned (.int .i64 (clsW x)) ∧ w = w' := by
 rcases hx with hx | hx
 ·have o1 : (FloatKind.f64.format.order x x != some .eq) = false := by
   show (double.order x x != some .eq) = false
   rw [order_eq hx]; rfl
  by_cases h0 : x = 0
  ·subst h0
   have o2 : (FloatKind.f64.format.order 0 0 == some .eq) = true := by kernel_rfl
   have hq := fun wx => run_float_arith (P := Tryz.prog) wx .quo 59 .f64 4607182418800017408 0 9218868437227405312 (by kernel_rfl)
   have o3 : (FloatKind.f64.format.order 9218868437227405312 0 == some .lt) = false := by kernel_rfl
   rw [show clsW 0 = 3 from rfl]
   go_enter Tryz.func37, Tryz.ntmps37
   go_wp2
   go_ret
   exact ⟨rfl, rfl⟩
  ·have o2 : (FloatKind.f64.format.order x 0 == some .eq) = false := by
    show (double.order x 0 == some .eq) = false
    rw [order_gt (by omega) hx]; rfl
   have o3 : (FloatKind.f64.format.order x 0 == some .gt) = true := by
    show (double.order x 0 == some .gt) = true
    rw [order_gt (by omega) hx]; rfl
   by_cases hi : x = 9218868437227405312
   ·subst hi
    have o4 : (FloatKind.f64.format.order 9218868437227405312 9218868437227405311 == some .gt) = true := by
     show (double.order 9218868437227405312 9218868437227405311 == some .gt) = true
     rw [order_gt (by decide) (by decide)]; rfl
    rw [show clsW 9218868437227405312 = 5 from rfl]
    go_enter Tryz.func37, Tryz.ntmps37
    go_wp2
    go_ret
    exact ⟨rfl, rfl⟩
   ·have o4 : (FloatKind.f64.format.order x 9218868437227405311 == some .gt) = false := order_top (by omega)
    rw [show clsW x = 4 by unfold clsW; rw [if_pos hx, if_neg hi, if_neg h0]]
    clear h0 hi hx
    go_enter Tryz.func37, Tryz.ntmps37
    go_wp2
    go_ret
    exact ⟨rfl, rfl⟩
 ·have o1 : (FloatKind.f64.format.order x x != some .eq) = true := by
   show (double.order x x != some .eq) = true
   rw [nan_order_l hx]; rfl
  rw [show clsW x = 6 by unfold clsW; rw [if_neg (nan_big hx)]]
  clear hx
  go_enter Tryz.func37, Tryz.ntmps37
  go_wp2
  go_ret
  exact ⟨rfl, rfl⟩
theorem nrm_le {x : Nat} (h : x <= 9218868437227405312) : nrmW x = x := if_pos h
theorem nrm_nan {x : Nat} (h : isNan x) : nrmW x = nanW := if_neg (nan_big h)
theorem refLess_any (x y : Nat) (hx : okN x) (hy : okN y) (w : World) : Calls Tryz.prog 38 #[.float .f64 x, .float .f64 y] w fun e w' => e = .returned (.bool (decide (nrmW x < nrmW y))) ∧ w = w' := by
 have HX := Lib.hid (fun w1 : World => class_any x hx w1)
 have HY := Lib.hid (fun w1 : World => class_any y hy w1)
 have hcase : (clsW x < clsW y ∧ decide (nrmW x < nrmW y) = true) ∨ (¬ clsW x < clsW y ∧ (clsW x == clsW y) = false ∧ decide (nrmW x < nrmW y) = false) ∨
  (¬ clsW x < clsW y ∧ (clsW x == clsW y) = true ∧ (FloatKind.f64.format.order x y == some .lt) = decide (nrmW x < nrmW y)) := by
  have hnn : nanW = 9221120237041090561 := rfl
  rcases hx with hx | hx
  ·rcases hy with hy | hy
   ·rw [nrm_le hx, nrm_le hy]
    have ho : (FloatKind.f64.format.order x y == some .lt) = decide (x < y) := by
     show (double.order x y == some .lt) = _
     rcases Nat.lt_trichotomy x y with h | h | h
     ·rw [order_lt h hy, decide_eq_true h]; rfl
     ·subst h; rw [order_eq hx, decide_eq_false (by omega)]; rfl
     ·rw [order_gt h hx, decide_eq_false (by omega)]; rfl
    have cx : clsW x = if x = 9218868437227405312 then 5 else if x = 0 then 3 else 4 := by unfold clsW; rw [if_pos hx]
    have cy : clsW y = if y = 9218868437227405312 then 5 else if y = 0 then 3 else 4 := by unfold clsW; rw [if_pos hy]
    by_cases hlt : clsW x < clsW y
    ·refine .inl ⟨hlt, decide_eq_true ?_⟩
     rw [cx, cy] at hlt
     split at hlt <;> split at hlt <;> (try split at hlt) <;> (try split at hlt) <;> omega
    ·by_cases he : clsW x = clsW y
     ·exact .inr (.inr ⟨hlt, by simp [he], ho⟩)
     ·refine .inr (.inl ⟨hlt, by simpa using he, decide_eq_false ?_⟩)
      rw [cx, cy] at hlt he
      split at hlt <;> split at hlt <;> (try split at hlt) <;> (try split at hlt) <;> simp_all <;> omega
   ·rw [nrm_le hx, nrm_nan hy]
    refine .inl ⟨?_, decide_eq_true (by omega)⟩
    unfold clsW
    rw [if_pos hx, if_neg (nan_big hy)]
    split <;> (try split) <;> decide
  ·rw [nrm_nan hx]
   have c6 : clsW x = 6 := by unfold clsW; rw [if_neg (nan_big hx)]
   rcases hy with hy | hy
   ·rw [nrm_le hy, c6]
    have : clsW y < 6 := by
     unfold clsW
     rw [if_pos hy]
     split <;> (try split) <;> decide
    exact .inr (.inl ⟨by omega, by rw [beq_eq_false_iff_ne]; omega, decide_eq_false (by omega)⟩)
   ·rw [nrm_nan hy]
    have c7 : clsW y = 6 := by unfold clsW; rw [if_neg (nan_big hy)]
    refine .inr (.inr ⟨by omega, by rw [c6, c7]; rfl, ?_⟩)
    show (double.order x y == some .lt) = _
    rw [nan_order_l hx, decide_eq_false (by omega)]; rfl
 generalize decide (nrmW x < nrmW y) = b at *
 generalize clsW x = cx at *
 generalize clsW y = cy at *
 clear hx hy
 rcases hcase with ⟨h1, rfl⟩ | ⟨h1, h2, rfl⟩ | ⟨h1, h2, h3⟩
 all_goals
  go_enter Tryz.func38, Tryz.ntmps38
  go_wp2_with (go_at_call 37; go_loud (first | (with_reducible refine (HX.out _).mono ?_) | (with_reducible refine (HY.out _).mono ?_)); rintro e w1 ⟨rfl, rfl⟩)
  go_ret
  first
   | exact ⟨rfl, rfl⟩
   | (have hd : decide (cx < cy) = false := decide_eq_false (by omega)
      refine ⟨ret_bool ?_, rfl⟩
      simp only [hd, Bool.false_or])
end Go.Proofs.YtonkgdoaobojbaaGreatDoor
namespace Go.Proofs.YtonkgdoaobojbaaGreatDoor
open Go Go.RowKit
theorem trimb_sameT (s : ByteArray) (w : World) (h1 : 1 <= s.size) (hm : s.size <= 4294967296) (hne : endS s = false) :
 Calls Tryz.prog 146 #[.string s, .int .u8 47] w fun e w' => e = .returned (.string s) ∧ w = w' := by
 have hb : ((s[s.size - 1].toNat : Int) == 47) = false := by
  rw [endS_last s h1, decide_eq_false_iff_not] at hne
  rw [byte_eq _ _ (by decide) (by decide), decide_eq_false_iff_not]
  exact hne
 clear hne
 go_enter Tryz.func146, Tryz.ntmps146
 go_wp2
 go_loop [0] (fun v => v = .string s) (fun _ => 0)
 case atStart => rfl
 case round =>
  subst hrel
  go_wp2
  go_ret
  exact ⟨rfl, rfl⟩
theorem trim_sameT (s : ByteArray) (w : World) (h1 : 1 <= s.size) (hm : s.size <= 4294967296) (hne : endS s = false) :
 Calls Tryz.prog 128 #[.string s, .string slashB] w fun e w' => e = .returned (.string s) ∧ w = w' := by
 have HT := Lib.hid (trimb_sameT s w h1 hm hne)
 have hz : (!s.toList.isEmpty) = true := notEmpty_eq (fun e => by subst e; exact absurd h1 (by decide))
 have hz2 : s.toList.isEmpty = false := by simpa using hz
 clear hne
 go_enter Tryz.func128, Tryz.ntmps128
 go_wp2_with (go_at_call 146; go_loud (refine HT.out.mono ?_); rintro e w1 ⟨rfl, rfl⟩)
 go_ret
 exact ⟨rfl, rfl⟩
end Go.Proofs.YtonkgdoaobojbaaGreatDoor
namespace Go.Proofs.YtonkgdoaobojbaaGreatDoor
open Go.RowKit
abbrev Sv := List (ByteArray × Value)
def svGet (l : Sv) (k : ByteArray) : Option Value := (l.find? fun x => decide (x.1 = k)).map (·.2)
structure SMap (w : World) (b : Nat) (l : Sv) : Prop where
 blk : ∃ es clock, w.heap[b]? = some (.map es clock) ∧ es.toList.map (fun e => (e.key, e.val)) = (l.map fun x => (Value.string x.1, x.2)) ∧ ∀ e ∈ es.toList, e.born < clock
 nodup : (l.map (·.1)).Nodup
theorem SMap.lt {w : World} {b : Nat} {l : Sv} (h : SMap w b l) : b < w.heap.size := by
 obtain ⟨es, c, hb, _⟩ := h.blk
 exact lt_of_block hb
theorem SMap.keep {F : Nat -> Prop} {w w' : World} {b : Nat} {l : Sv} (h : SMap w b l) (k : Keeps F w w') (hF : ¬ F b) : SMap w' b l := by
 obtain ⟨es, c, hb, he⟩ := h.blk
 exact ⟨⟨es, c, (k.block b h.lt hF).trans hb, he⟩, h.nodup⟩
theorem svGet_none {l : Sv} {k : ByteArray} : svGet l k = none ↔ ∀ x ∈ l, x.1 ≠ k := by
 simp [svGet]
theorem findNow_str {es : List MapEntry} {l : Sv} (he : es.map (fun e => (e.key, e.val)) = l.map fun x => (Value.string x.1, x.2)) (k : ByteArray) (i : Nat) :
 (svGet l k = none ∧ Instr.findNow .string (.string k) es i = some none) ∨ ∃ j v, svGet l k = some v ∧ Instr.findNow .string (.string k) es i = some (some (i + j, v)) := by
 induction es generalizing l i with
 | nil =>
   cases l with
   | nil => exact .inl ⟨rfl, rfl⟩
   | cons _ _ => simp at he
 | cons e es ih =>
   cases l with
   | nil => simp at he
   | cons a l =>
     simp only [List.map_cons, List.cons.injEq, Prod.mk.injEq] at he
     obtain ⟨⟨hk, hv⟩, he⟩ := he
     by_cases ea : a.1 = k
     ·subst ea
      refine .inr ⟨0, a.2, by simp [svGet], ?_⟩
      simp [Instr.findNow, Instr.sameNow, hk, hv, (MapKept.bytes_beq a.1 a.1).2 rfl]
     ·have hb : (k == a.1) = false := by
       rcases h : (k == a.1) with _ | _
       ·rfl
       ·exact absurd ((MapKept.bytes_beq _ _).1 h).symm ea
      have hsk : Instr.findNow .string (.string k) (e :: es) i = Instr.findNow .string (.string k) es (i + 1) := by
       simp only [Instr.findNow, Instr.sameNow, hk, hb]
      have hg : svGet (a :: l) k = svGet l k := by simp [svGet, List.find?_cons, ea]
      rcases ih he (i + 1) with ⟨h1, h2⟩ | ⟨j, v, h1, h2⟩
      ·exact .inl ⟨hg.trans h1, hsk.trans h2⟩
      ·exact .inr ⟨j + 1, v, hg.trans h1, hsk.trans (h2.trans (by rw [Nat.add_right_comm, Nat.add_assoc]))⟩
section
variable {P : Program} {t kt et : TypeId} {w : World} {b : Nat} {l : Sv}
theorem SMap.lookup (h : SMap w b l) (ht : P.underlying t = some (.map kt et)) (hk : P.underlying kt = some .string) {z : Value} (hz : (zeroValue et).run P w = .ok z w) (k : ByteArray) :
 (Instr.lookup t (.map (some b)) (.string k) false).run P w = .ok ((svGet l k).getD z) w := by
 obtain ⟨es, c, hb, he, _⟩ := h.blk
 have hck := fun e => MapKept.run_checkKey (w := w) hk (k := .string k) (by simp [MapKept.IsKey]) e 9999
 rcases findNow_str he k 0 with ⟨h1, h2⟩ | ⟨j, v, h1, h2⟩
 ·simp [Instr.lookup, run_underlying ht, MapKept.run_getObj_map hb, hck, MapKept.run_findKey hk h2, h1, hz, Result.andThen]
 ·simp [Instr.lookup, run_underlying ht, MapKept.run_getObj_map hb, hck, MapKept.run_findKey hk h2, h1, Result.andThen]
theorem SMap.lookup2 (h : SMap w b l) (ht : P.underlying t = some (.map kt et)) (hk : P.underlying kt = some .string) {z : Value} (hz : (zeroValue et).run P w = .ok z w) (k : ByteArray) :
 (Instr.lookup t (.map (some b)) (.string k) true).run P w = .ok (.tuple #[(svGet l k).getD z, .bool (svGet l k).isSome]) w := by
 obtain ⟨es, c, hb, he, _⟩ := h.blk
 have hck := fun e => MapKept.run_checkKey (w := w) hk (k := .string k) (by simp [MapKept.IsKey]) e 9999
 rcases findNow_str he k 0 with ⟨h1, h2⟩ | ⟨j, v, h1, h2⟩
 ·simp [Instr.lookup, run_underlying ht, MapKept.run_getObj_map hb, hck, MapKept.run_findKey hk h2, h1, hz, Result.andThen]
 ·simp [Instr.lookup, run_underlying ht, MapKept.run_getObj_map hb, hck, MapKept.run_findKey hk h2, h1, Result.andThen]
theorem sv_snoc (h : (l.map (·.1)).Nodup) {k : ByteArray} (hno : svGet l k = none) (v : Value) : ((l ++ [(k, v)]).map (·.1)).Nodup := by
 rw [List.map_append, List.nodup_append]
 refine ⟨h, by simp, fun a ha b hb => ?_⟩
 simp only [List.map_cons, List.map_nil, List.mem_singleton] at hb
 subst hb
 obtain ⟨x, hx, rfl⟩ := List.mem_map.1 ha
 exact svGet_none.1 hno x hx
theorem keeps_block {es : Array MapEntry} {c : Nat} {o' : Obj} (hb : w.heap[b]? = some (.map es c)) : Keeps (fun g => g = b) w (ChangeMaps.setBlock w b o') :=
 ⟨rfl, rfl, rfl, by simp [ChangeMaps.setBlock], fun i _ hi => ChangeMaps.heap_setBlock_other hb _ hi⟩
theorem SMap.update (h : SMap w b l) (ht : P.underlying t = some (.map kt et)) (hk : P.underlying kt = some .string) (k : ByteArray) (v : Value) (hno : svGet l k = none) :
 ∃ w', (Instr.mapUpdate t (.map (some b)) (.string k) v).run P w = .ok () w' ∧ SMap w' b (l ++ [(k, v)]) ∧ Keeps (fun g => g = b) w w' := by
 obtain ⟨es, c, hb, he, hc⟩ := h.blk
 have hck := fun e => MapKept.run_checkKey (w := w) hk (k := .string k) (by simp [MapKept.IsKey]) e 9999
 rcases findNow_str he k 0 with ⟨h1, h2⟩ | ⟨j, v', h1, h2⟩
 ·refine ⟨ChangeMaps.setBlock w b (.map (es.push { key := .string k, val := v, born := c }) (c + 1)), ?_, ⟨⟨_, _, ChangeMaps.heap_setBlock_same hb _, by simp [he], ?_⟩, sv_snoc h.nodup hno v⟩, keeps_block hb⟩
  ·simp [Instr.mapUpdate, run_underlying ht, MapKept.run_getObj_map hb, hck, MapKept.run_findKey hk h2, MapKept.run_setObj_map _ hb, Result.andThen, ChangeMaps.setBlock]
  ·intro e hm
   simp only [Array.toList_push, List.mem_append, List.mem_singleton] at hm
   rcases hm with hm | rfl
   ·exact Nat.lt_succ_of_lt (hc e hm)
   ·exact Nat.lt_succ_self _
 ·rw [hno] at h1; cases h1
structure SNew (P : Program) (t : TypeId) (w : World) (b : Nat) (l : Sv) (k : ByteArray) (st : Value) : Prop where
 blk : ∃ (es : Array MapEntry) (clock : Nat) (z : Value), w.heap[b]? = some (.map (es.push ⟨.string k, z, clock⟩) (clock + 1)) ∧ st = goInt clock ∧ es.toList.map (fun e => (e.key, e.val)) = (l.map fun x => (Value.string x.1, x.2)) ∧ ∀ e ∈ es.toList, e.born < clock
 nodup : (l.map (·.1)).Nodup
 no : svGet l k = none
theorem SNew.keep {F : Nat -> Prop} {w w' : World} {k : ByteArray} {st : Value} (h : SNew P t w b l k st) (kp : Keeps F w w') (hF : ¬ F b) : SNew P t w' b l k st := by
 obtain ⟨es, c, z, hb, he⟩ := h.blk
 exact ⟨⟨es, c, z, (kp.block b (lt_of_block hb) hF).trans hb, he⟩, h.nodup, h.no⟩
theorem SMap.entry (h : SMap w b l) (ht : P.underlying t = some (.map kt et)) (hk : P.underlying kt = some .string) {z : Value} (hz : ∀ w, (zeroValue et).run P w = .ok z w) (k : ByteArray) (hno : svGet l k = none) :
 ∃ st w', (Instr.mapEntry t (.map (some b)) (.string k)).run P w = .ok (.tuple #[z, st]) w' ∧ SNew P t w' b l k st ∧ Keeps (fun g => g = b) w w' := by
 obtain ⟨es, c, hb, he, hc⟩ := h.blk
 have hck := fun e => MapKept.run_checkKey (w := w) hk (k := .string k) (by simp [MapKept.IsKey]) e 9999
 rcases findNow_str he k 0 with ⟨h1, h2⟩ | ⟨j, v', h1, h2⟩
 ·refine ⟨goInt c, ChangeMaps.setBlock w b (.map (es.push { key := .string k, val := z, born := c }) (c + 1)), ?_, ⟨⟨es, c, z, ChangeMaps.heap_setBlock_same hb _, rfl, he, hc⟩, h.nodup, hno⟩, keeps_block hb⟩
  simp [Instr.mapEntry, run_underlying ht, MapKept.run_getObj_map hb, hck, MapKept.run_findKey hk h2, hz, MapKept.run_setObj_map _ hb, Result.andThen, ChangeMaps.setBlock]
 ·rw [hno] at h1; cases h1
theorem SNew.store {k : ByteArray} {st : Value} (h : SNew P t w b l k st) (v : Value) :
 ∃ w', (Instr.entryStore t (.map (some b)) st v).run P w = .ok () w' ∧ SMap w' b (l ++ [(k, v)]) ∧ Keeps (fun g => g = b) w w' := by
 obtain ⟨es, c, z, hb, rfl, he, hc⟩ := h.blk
 have hidx : (es.push ⟨.string k, z, c⟩).findIdx? (fun e => ((e.born : Nat) : Int) == ((c : Nat) : Int)) = some es.size := by
  rw [WideElems.findIdx_arr, Array.toList_push, List.findIdx?_append]
  have hn : es.toList.findIdx? (fun e => ((e.born : Nat) : Int) == ((c : Nat) : Int)) = none := by
   rw [List.findIdx?_eq_none_iff]
   intro e hm
   have := hc e hm
   simp
   omega
  rw [hn]
  simp
 have hmod : (es.push ⟨.string k, z, c⟩).modify es.size (fun e => { e with val := v }) = es.push ⟨.string k, v, c⟩ := by
  apply Array.ext'
  rw [Array.toList_modify, Array.toList_push, Array.toList_push, <- Array.length_toList, WideElems.modify_last]
 refine ⟨ChangeMaps.setBlock w b (.map (es.push ⟨.string k, v, c⟩) (c + 1)), ?_, ⟨⟨_, _, ChangeMaps.heap_setBlock_same hb _, by simp [he], ?_⟩, sv_snoc h.nodup h.no v⟩, keeps_block hb⟩
 ·simp [Instr.entryStore, MapKept.run_getObj_map hb, asInt, asIntOf, goInt, hidx, hmod, MapKept.run_setObj_map _ hb, Result.andThen, ChangeMaps.setBlock]
 ·intro e hm
  simp only [Array.toList_push, List.mem_append, List.mem_singleton] at hm
  rcases hm with hm | rfl
  ·exact Nat.lt_succ_of_lt (hc e hm)
  ·exact Nat.lt_succ_self _
theorem SMap.made (w : World) : SMap (w.alloc (.map #[] 0)) w.heap.size [] := ⟨⟨#[], 0, heap_alloc_new w _, rfl, by simp⟩, by simp⟩
end
theorem wpl_mapUpdateS {P : Program} {w : World} {ops : Array Oper} {rest : List Oper} {o : Oper} {a : Act} {Q : Exit -> Act -> World -> Prop} (hg : o.guard = none) (m x v : Operand) (t : TypeId) (hop : o.op = Op.mapUpdate t m x v)
 {kt et : TypeId} (ht : P.underlying t = some (.map kt et)) (hk : P.underlying kt = some .string) {b : Nat} {l : Sv} (hm : a.eval m = .map (some b)) (h : SMap w b l) {k : ByteArray} (hx : a.eval x = .string k) {val : Value} (hv : a.eval v = val)
 (hno : svGet l k = none) (hK : ∀ w', SMap w' b (l ++ [(k, val)]) -> Keeps (fun g => g = b) w w' -> wpList P ops Q rest (a.put o.dst undef) w') :
 wpList P ops Q (o :: rest) a w := by
 refine wpList_plain hg fun K' hK' => ?_
 obtain ⟨w', hrun, r1, r2⟩ := h.update ht hk k val hno
 unfold Oper.wp
 simp [execOp, hop, hm, hx, hv, hrun, Result.andThen]
 exact hK' _ _ (hK w' r1 r2)
end Go.Proofs.YtonkgdoaobojbaaGreatDoor
namespace Go.Proofs.YtonkgdoaobojbaaGreatDoor
open Go Go.RowKit
structure Itm where
 p : ByteArray
 kind : Int
 mode : Int
 dat : ByteArray
 same : ByteArray
def Itm.cs (i : Itm) : Array Value := #[.string i.p, .int .i64 i.kind, .int .i64 i.mode, .string i.dat, .string i.same]
def Itm.v (i : Itm) : Value := .agg i.cs
def zItm : Itm := ⟨⟨#[]⟩, 0, 0, ⟨#[]⟩, ⟨#[]⟩⟩
structure Ck where
 ks : List (ByteArray × Int)
 fs : List (ByteArray × Itm)
 last : ByteArray
def Ck.kv (s : Ck) : Sv := s.ks.map fun x => (x.1, .int .i64 x.2)
def Ck.fv (s : Ck) : Sv := s.fs.map fun x => (x.1, x.2.v)
def Ck.kind (s : Ck) (p : ByteArray) : Int := match s.ks.find? (fun x => decide (x.1 = p)) with | some x => x.2 | none => 0
def Ck.item (s : Ck) (p : ByteArray) : Option Itm := (s.fs.find? (fun x => decide (x.1 = p))).map (·.2)
def Ck.put (s : Ck) (i : Itm) : Ck := ⟨s.ks ++ [(i.p, i.kind)], if i.same = ⟨#[]⟩ ∧ i.kind = 1 then s.fs ++ [(i.p, i)] else s.fs, i.p⟩
structure CkAt (w : World) (c bk bf : Nat) (s : Ck) : Prop where
 bc : Bk w c [.map (some bk), .map (some bf), .string s.last]
 km : SMap w bk s.kv
 fm : SMap w bf s.fv
 kf : bk ≠ bf
 kc : bk ≠ c
 fc : bf ≠ c
 ik : ∀ x ∈ s.ks, bLt s.last x.1 = false
 jf : ∀ x ∈ s.fs, bLt s.last x.1 = false
theorem CkAt.on {w w' : World} {c bk bf : Nat} {s : Ck} (h : CkAt w c bk bf s) (k : Keeps NoB w w') : CkAt w' c bk bf s :=
 ⟨h.bc.on k, h.km.keep k (fun h => h), h.fm.keep k (fun h => h), h.kf, h.kc, h.fc, h.ik, h.jf⟩
theorem keeps_cell (w : World) (p : Addr) (u : Value) : Keeps (fun x => x = p.block) w (w.setCell p u) := Keeps.setCell (p := p) (Keeps.refl (fun x => x = p.block) w) (Or.inl rfl) u
theorem Ck.kv_get (s : Ck) (p : ByteArray) : svGet s.kv p = (s.ks.find? (fun x => decide (x.1 = p))).map fun x => .int .i64 x.2 := by
 unfold svGet Ck.kv
 rw [List.find?_map, Option.map_map]
 rfl
theorem Ck.kind_eq (s : Ck) (p : ByteArray) : (svGet s.kv p).getD (.int .i64 0) = .int .i64 (s.kind p) := by
 rw [s.kv_get]
 unfold Ck.kind
 cases s.ks.find? (fun x => decide (x.1 = p)) <;> rfl
theorem Ck.fv_get (s : Ck) (p : ByteArray) : svGet s.fv p = (s.item p).map Itm.v := by
 unfold svGet Ck.fv Ck.item
 rw [List.find?_map, Option.map_map, Option.map_map]
 rfl
def addE (sh : Int) (up : ByteArray) (s : Ck) (i : Itm) : Int :=
 if sh ≠ 0 then sh
 else if bLt s.last i.p = false then 13
 else if up ≠ ⟨#[46]⟩ ∧ s.kind up ≠ 2 then 14
 else if i.same ≠ ⟨#[]⟩ then (match s.item i.same with
  | none => 22
  | some o => if o.mode ≠ i.mode ∨ i.dat ≠ ⟨#[]⟩ then 22 else 0)
 else 0
theorem Ck.new_k {s : Ck} {p : ByteArray} (h : ∀ x ∈ s.ks, bLt s.last x.1 = false) (hp : bLt s.last p = true) : svGet s.kv p = none :=
 svGet_none.2 fun x hx e => by
  obtain ⟨y, hy, rfl⟩ := List.mem_map.1 hx
  have := h y hy
  rw [show y.1 = p from e, hp] at this
  cases this
theorem Ck.new_f {s : Ck} {p : ByteArray} (h : ∀ x ∈ s.fs, bLt s.last x.1 = false) (hp : bLt s.last p = true) : svGet s.fv p = none :=
 svGet_none.2 fun x hx e => by
  obtain ⟨y, hy, rfl⟩ := List.mem_map.1 hx
  have := h y hy
  rw [show y.1 = p from e, hp] at this
  cases this
theorem CkAt.put {w w0 : World} {c bk bf : Nat} {s : Ck} (h : CkAt w0 c bk bf s) (i : Itm) (hl : bLt s.last i.p = true) (hc : Bk w c [.map (some bk), .map (some bf), .string i.p]) (hk : SMap w bk (s.kv ++ [(i.p, .int .i64 i.kind)]))
 (hf : SMap w bf (if i.same = ⟨#[]⟩ ∧ i.kind = 1 then s.fv ++ [(i.p, i.v)] else s.fv)) : CkAt w c bk bf (s.put i) := by
 have hx : ∀ p : ByteArray, bLt s.last p = false -> bLt i.p p = false := fun p hp => by
  rcases e : bLt i.p p with _ | _
  ·rfl
  ·rw [bLt_trans hl e] at hp; cases hp
 refine ⟨hc, ?_, ?_, h.kf, h.kc, h.fc, fun x hxm => ?_, fun x hxm => ?_⟩
 ·show SMap w bk (List.map _ (s.ks ++ [(i.p, i.kind)]))
  rw [List.map_append]
  exact hk
 ·show SMap w bf (List.map _ (if i.same = ⟨#[]⟩ ∧ i.kind = 1 then s.fs ++ [(i.p, i)] else s.fs))
  split
  ·next e => rw [if_pos e] at hf; rw [List.map_append]; exact hf
  ·next e => rw [if_neg e] at hf; exact hf
 ·show bLt i.p x.1 = false
  rcases List.mem_append.1 (show x ∈ s.ks ++ [(i.p, i.kind)] from hxm) with hm | hm
  ·exact hx _ (h.ik x hm)
  ·obtain rfl := List.mem_singleton.1 hm
   exact bLt_irrefl _
 ·show bLt i.p x.1 = false
  have hxm' : x ∈ (if i.same = ⟨#[]⟩ ∧ i.kind = 1 then s.fs ++ [(i.p, i)] else s.fs) := hxm
  split at hxm'
  ·rcases List.mem_append.1 hxm' with hm | hm
   ·exact hx _ (h.jf x hm)
   ·obtain rfl := List.mem_singleton.1 hm
    exact bLt_irrefl _
  ·exact hx _ (h.jf x hxm')
def AddTo (w : World) (c bk bf : Nat) (s : Ck) (i : Itm) (r : Int) (e : Ending) (w' : World) : Prop :=
 e = .returned (.int .i64 r) ∧ (r = 0 -> CkAt w' c bk bf (s.put i)) ∧ Keeps (fun g => g = bk ∨ g = bf ∨ g = c) w w'
theorem add_walk (s : Ck) (i : Itm) (c bk bf : Nat) (sh : Int) (up : ByteArray) (w : World)
 (hsh : ∀ w1, Calls Tryz.prog 62 #[i.v] w1 fun e w' => e = .returned (.int .i64 sh) ∧ Keeps NoB w1 w')
 (hdir : sh = 0 -> ∀ w1, Calls Tryz.prog 63 #[.string i.p] w1 fun e w' => e = .returned (.string up) ∧ Keeps NoB w1 w')
 (hc : CkAt w c bk bf s) :
 Calls Tryz.prog 39 #[.pointer (some ⟨c, 0, none⟩), i.v] w fun e w' => AddTo w c bk bf s i (addE sh up s i) e w' := by
 have HS := Lib.hid hsh
 have HD := Lib.hid hdir
 have HC := Lib.hid hc
 have HI := Lib.hid (Bk.new (Keeps.refl NoB (w.alloc (.cells i.cs 42))))
 have HK := Lib.hid ((Keeps.refl NoB w).alloc (.cells i.cs 42))
 obtain ⟨p, kind, mode, dat, same⟩ := i
 have HS : Hid (∀ w1, Calls Tryz.prog 62 #[.agg #[.string p, .int .i64 kind, .int .i64 mode, .string dat, .string same]] w1 fun e w' => e = .returned (.int .i64 sh) ∧ Keeps NoB w1 w') := HS
 have HI : Hid (Bk (w.alloc (.cells #[.string p, .int .i64 kind, .int .i64 mode, .string dat, .string same] 42)) w.heap.size [.string p, .int .i64 kind, .int .i64 mode, .string dat, .string same]) := HI
 have HK : Hid (Keeps NoB w (w.alloc (.cells #[.string p, .int .i64 kind, .int .i64 mode, .string dat, .string same] 42))) := HK
 show Calls Tryz.prog 39 #[.pointer (some ⟨c, 0, none⟩), .agg #[.string p, .int .i64 kind, .int .i64 mode, .string dat, .string same]] w _
 have b0 := hc.bc.cell 0 _ rfl
 have cl := hc.bc.lt
 clear hsh hdir hc
 have hz3 : ∀ wx : World, (zeroValue 3).run Tryz.prog wx = .ok (.int .i64 0) wx := fun wx => by kernel_rfl
 by_cases h0 : sh = 0
 ·subst h0
  have HD' := Lib.hid (HD.out rfl)
  clear HD
  by_cases hl : bLt s.last p = false
  ·have he : addE 0 up s ⟨p, kind, mode, dat, same⟩ = 13 := by unfold addE; rw [if_neg (by simp), if_pos hl]
   rw [he]
   have hle : (Op.bytesLess p.toList s.last.toList = true) ∨ (Op.bytesLess p.toList s.last.toList = false ∧ (p.toList == s.last.toList) = true) := by
    rw [less_eq]
    rcases h : bLt p s.last with _ | _
    ·exact .inr ⟨rfl, by rw [bLt_total h hl]; simp⟩
    ·exact .inl rfl
   clear hl
   rcases hle with hle | ⟨hle, hle2⟩
   all_goals
    go_enter Tryz.func39, Tryz.ntmps39
    go_upto_region 4 with (go_at_call 62; go_loud (refine (HS.out _).mono ?_); rintro e w1 ⟨rfl, hk1⟩; have hc1 := HC.out.on (HK.out.trans hk1); have hi1 := HI.out.on hk1; have f0 := hc1.bc.cell 0 _ rfl; have f1 := hc1.bc.cell 1 _ rfl; have f2 := hc1.bc.cell 2 _ rfl; have i0 := hi1.cell 0 _ rfl; have i1 := hi1.cell 1 _ rfl; have i2 := hi1.cell 2 _ rfl; have i3 := hi1.cell 3 _ rfl; have i4 := hi1.cell 4 _ rfl; have fl := hc1.bc.lt; have il := hi1.lt; have HC1 := Lib.hid hc1; have HI1 := Lib.hid hi1; clear hc1 hi1)
    go_quiet (fail)
    go_wp2
    go_ret
    exact ⟨rfl, fun h => absurd h (by decide), ((HK.out.trans hk1).drewN _).mono (fun g _ (h : False) => h.elim)⟩
  ·have hle : Op.bytesLess p.toList s.last.toList = false := by rw [less_eq]; exact bLt_asymm (by simpa using hl)
   have hle2 : (p.toList == s.last.toList) = false := by
    rw [beq_eq_false_iff_ne]
    intro h
    have : p = s.last := by
     have h2 : p.data.toList = s.last.data.toList := by rw [<- Lib.toList_data, <- Lib.toList_data]; exact h
     exact ByteArray.ext (Array.ext' h2)
    subst this
    rw [bLt_irrefl] at hl
    exact hl rfl
   have HL : Hid (bLt s.last p = true) := Lib.hid (by simpa using hl)
   clear hl
   go_enter Tryz.func39, Tryz.ntmps39
   go_upto_region 4 with (go_at_call 62; go_loud (refine (HS.out _).mono ?_); rintro e w1 ⟨rfl, hk1⟩; have hc1 := HC.out.on (HK.out.trans hk1); have hi1 := HI.out.on hk1; have f0 := hc1.bc.cell 0 _ rfl; have f1 := hc1.bc.cell 1 _ rfl; have f2 := hc1.bc.cell 2 _ rfl; have i0 := hi1.cell 0 _ rfl; have i1 := hi1.cell 1 _ rfl; have i2 := hi1.cell 2 _ rfl; have i3 := hi1.cell 3 _ rfl; have i4 := hi1.cell 4 _ rfl; have fl := hc1.bc.lt; have il := hi1.lt; have HC1 := Lib.hid hc1; have HI1 := Lib.hid hi1; clear hc1 hi1)
   go_quiet (fail)
   go_upto_region 7 with (go_at_call 63; go_loud (refine (HD'.out _).mono ?_); rintro e w2 ⟨rfl, hk2⟩)
   have zk : Keeps NoB w1 w2 := ((Keeps.refl NoB w1).drewN _).trans hk2
   have hc2 := HC1.out.on zk
   have hi2 := HI1.out.on zk
   have HK2 := Lib.hid ((HK.out.trans hk1).trans zk)
   clear hk1 zk f0 f1 f2 i0 i1 i2 i3 i4 fl il
   have f0 := hc2.bc.cell 0 _ rfl
   have f1 := hc2.bc.cell 1 _ rfl
   have f2 := hc2.bc.cell 2 _ rfl
   have i0 := hi2.cell 0 _ rfl
   have i1 := hi2.cell 1 _ rfl
   have i2 := hi2.cell 2 _ rfl
   have i3 := hi2.cell 3 _ rfl
   have i4 := hi2.cell 4 _ rfl
   have fl := hc2.bc.lt
   have il := hi2.lt
   have lk := hc2.km.lookup (t := 79) Tryz.underlying79 Tryz.underlying9 (hz3 w2) up
   rw [s.kind_eq up] at lk
   have HC2 := Lib.hid hc2
   have HI2 := Lib.hid hi2
   clear hc2 hi2
   by_cases hA : up ≠ ⟨#[46]⟩ ∧ s.kind up ≠ 2
   ·have he : addE 0 up s ⟨p, kind, mode, dat, same⟩ = 14 := by unfold addE; rw [if_neg (by simp), if_neg (by rw [HL.out]; simp), if_pos hA]
    have hkb : (s.kind up != 2) = true := by simpa using hA.2
    have hup : (up.toList == [46]) = false := by
     rw [beq_eq_false_iff_ne]
     exact fun h => hA.1 (ByteArray.ext (Array.ext' (by rw [<- Lib.toList_data]; exact h)))
    clear hA
    go_wp2
    go_ret
    rw [he]
    exact ⟨rfl, fun h => absurd h (by decide), HK2.out.mono (fun g _ (h : False) => h.elim)⟩
   ·have hB : (up.toList == [46]) = true ∨ ((up.toList == [46]) = false ∧ (s.kind up != 2) = false) := by
     rcases h : (up.toList == [46]) with _ | _
     ·refine .inr ⟨rfl, ?_⟩
      by_cases hk : s.kind up = 2
      ·simp [hk]
      ·exact absurd ⟨fun e => by rw [e, Lib.toList_data] at h; exact absurd h (by decide), hk⟩ hA
     ·exact .inl rfl
    have HA := Lib.hid hA
    clear hA
    by_cases hs : same = ⟨#[]⟩
    ·subst hs
     have r0 : addE 0 up s ⟨p, kind, mode, dat, ⟨#[]⟩⟩ = 0 := by unfold addE; rw [if_neg (by simp), if_neg (by rw [HL.out]; simp), if_neg HA.out, if_neg (by simp)]
     have R0 := Lib.hid r0
     clear r0
     by_cases hkd : kind = 1
     ·subst hkd
      rcases hB with hup | ⟨hup, hk⟩ <;> (go_upto_region 14 with fail)
      all_goals
       go_still_tail 7, (by kernel_rfl)
       change wpList _ _ _ _ _ w2.drew
       have kd : Keeps NoB w2 w2.drew := (Keeps.refl _ _).drew
       have HK3 := Lib.hid (HK2.out.trans kd)
       have HC3 := Lib.hid (HC2.out.on kd)
       have HI3 := Lib.hid (HI2.out.on kd)
       clear kd f0 f1 f2 i0 i1 i2 i3 i4 fl il lk
       generalize w2.drew = w3 at *
       have hBf : w.heap.size ≠ bf := Nat.ne_of_gt HC.out.fm.lt
       go_upto_region 15 with (refine wpl_mapUpdateS rfl (.tmp 68) (.tmp 70) (.tmp 71) _ rfl Tryz.underlying80 Tryz.underlying9 rfl HC3.out.fm rfl rfl (Ck.new_f HC3.out.jf HL.out) ?_; intro w4 hm4 hk4)
       have HX : Hid (Bk w4 c [.map (some bk), .map (some bf), .string s.last] ∧ SMap w4 bk s.kv ∧ Bk w4 w.heap.size [.string p, .int .i64 1, .int .i64 mode, .string dat, .string ⟨#[]⟩] ∧ Keeps (fun g => g = bk ∨ g = bf ∨ g = c) w w4) :=
        Lib.hid ⟨HC3.out.bc.keep hk4 (fun e => HC3.out.fc e.symm), HC3.out.km.keep hk4 (fun e => HC3.out.kf e), HI3.out.keep hk4 (fun e => hBf e), (HK3.out.mono (fun g _ (h : False) => h.elim)).step hk4 (fun g e => .inl (.inr (.inl e)))⟩
       have HM4 : Hid (SMap w4 bf (s.fv ++ [(p, .agg #[.string p, .int .i64 1, .int .i64 mode, .string dat, .string ⟨#[]⟩])])) := Lib.hid hm4
       clear hm4 hk4
       have f0 := HX.out.1.cell 0 _ rfl
       have f2 := HX.out.1.cell 2 _ rfl
       have i0 := HX.out.2.2.1.cell 0 _ rfl
       have i1 := HX.out.2.2.1.cell 1 _ rfl
       have hBk : w.heap.size ≠ bk := Nat.ne_of_gt HC.out.km.lt
       have hck : c ≠ bk := fun e => HC.out.kc e.symm
       have hno := Ck.new_k HC.out.ik HL.out
       have hkc : bk ≠ c := HC.out.kc
       have hfk : bf ≠ bk := fun e => HC.out.kf e.symm
       have hfc : bf ≠ c := HC.out.fc
       have hBc : w.heap.size ≠ c := Nat.ne_of_gt HC.out.bc.lt
       have cl4 := HX.out.1.lt
       obtain ⟨st, w6, hrun6, hn6, hk6⟩ := (HX.out.2.1.keep (F := NoB) (w' := w4.drew) (by (repeat (first | with_reducible assumption | (with_reducible exact Keeps.refl _ _) | (with_reducible refine Keeps.drew ?_) | (with_reducible refine Keeps.drewN ?_ _) | (with_reducible refine Keeps.alloc ?_ _)))) (fun h => h)).entry (t := 79) Tryz.underlying79 Tryz.underlying9 hz3 p hno
       replace hk6 : Keeps (fun g => g = bk) w4 w6 := ⟨hk6.os, hk6.tape, hk6.output, hk6.size, hk6.block⟩
       have hb6 := HX.out.1.keep hk6 hck
       have hi6 := HX.out.2.2.1.keep hk6 hBk
       obtain ⟨w7, hrun7, hm7, hk7⟩ := hn6.store (.int .i64 1)
       have hb7 := hb6.keep hk7 hck
       have hi7 := hi6.keep hk7 hBk
       have f0' := hb6.cell 0 _ rfl
       have f2' := hb6.cell 2 _ rfl
       have i0' := hi6.cell 0 _ rfl
       have i1' := hi6.cell 1 _ rfl
       have f0x := hb7.cell 0 _ rfl
       have f2x := hb7.cell 2 _ rfl
       have i0x := hi7.cell 0 _ rfl
       have i1x := hi7.cell 1 _ rfl
       have z2x := hb7.fz 2
       have l2x := hb7.lt
       have HB7 := Lib.hid hb7
       have HM7 := Lib.hid hm7
       have HK7 : Hid (Keeps (fun g => g = bk) w4 w7) := Lib.hid (hk6.trans hk7)
       clear hn6 hk6 hb6 hi6 hm7 hk7 hb7 hi7
       go_region_held3 (fun wz => wz.cell? ⟨c, 0, none⟩ = some (.map (some bk)) ∧ wz.cell? ⟨w.heap.size, 0, none⟩ = some (.string p) ∧ wz.cell? ⟨w.heap.size, 1, none⟩ = some (.int .i64 1))
        (first
          | exact ⟨f0, i0, i1⟩
          | exact ⟨f0', i0', i1'⟩
          | exact ⟨f0x, i0x, i1x⟩
          | exact ⟨by rw [World.cell?_setCell_other _ _ _ _ (by simp)]; exact f0x, by rw [World.cell?_setCell_other _ _ _ _ (by simp [hBc])]; exact i0x, by rw [World.cell?_setCell_other _ _ _ _ (by simp [hBc])]; exact i1x⟩)
        (fail)
       all_goals
        go_wp2_with fail
        go_ret
        rw [R0.out]
        refine ⟨rfl, fun _ => CkAt.put HC.out ⟨p, 1, mode, dat, ⟨#[]⟩⟩ HL.out (HB7.out.put 2 (.string p)) (HM7.out.keep (keeps_cell w7 ⟨c, 2, none⟩ _) hkc) ?_, (HX.out.2.2.2.step HK7.out (fun g e => .inl (.inl e))).setCell (p := ⟨c, 2, none⟩) (.inl (.inr (.inr rfl))) _⟩
        rw [if_pos ⟨rfl, rfl⟩]
        exact ((HM4.out).keep HK7.out hfk).keep (keeps_cell w7 ⟨c, 2, none⟩ _) hfc
     ·have hkb : (kind == 1) = false := by simpa using hkd
      rcases hB with hup | ⟨hup, hk⟩ <;> (go_upto_region 15 with fail)
      all_goals
       have HX : Hid (Bk w2 c [.map (some bk), .map (some bf), .string s.last] ∧ SMap w2 bk s.kv ∧ Bk w2 w.heap.size [.string p, .int .i64 kind, .int .i64 mode, .string dat, .string ⟨#[]⟩] ∧ Keeps (fun g => g = bk ∨ g = bf ∨ g = c) w w2) :=
        Lib.hid ⟨HC2.out.bc, HC2.out.km, HI2.out, HK2.out.mono (fun g _ (h : False) => h.elim)⟩
       have hBk : w.heap.size ≠ bk := Nat.ne_of_gt HC.out.km.lt
       have hck : c ≠ bk := fun e => HC.out.kc e.symm
       have hno := Ck.new_k HC.out.ik HL.out
       have hkc : bk ≠ c := HC.out.kc
       have hfk : bf ≠ bk := fun e => HC.out.kf e.symm
       have hfc : bf ≠ c := HC.out.fc
       have hBc : w.heap.size ≠ c := Nat.ne_of_gt HC.out.bc.lt
       have cl4 := HX.out.1.lt
       obtain ⟨st, w6, hrun6, hn6, hk6⟩ := (HX.out.2.1.keep (F := NoB) (w' := w2.drew) (by (repeat (first | with_reducible assumption | (with_reducible exact Keeps.refl _ _) | (with_reducible refine Keeps.drew ?_) | (with_reducible refine Keeps.drewN ?_ _) | (with_reducible refine Keeps.alloc ?_ _)))) (fun h => h)).entry (t := 79) Tryz.underlying79 Tryz.underlying9 hz3 p hno
       replace hk6 : Keeps (fun g => g = bk) w2 w6 := ⟨hk6.os, hk6.tape, hk6.output, hk6.size, hk6.block⟩
       have hb6 := HX.out.1.keep hk6 hck
       have hi6 := HX.out.2.2.1.keep hk6 hBk
       obtain ⟨w7, hrun7, hm7, hk7⟩ := hn6.store (.int .i64 kind)
       have hb7 := hb6.keep hk7 hck
       have hi7 := hi6.keep hk7 hBk
       have f0' := hb6.cell 0 _ rfl
       have f2' := hb6.cell 2 _ rfl
       have i0' := hi6.cell 0 _ rfl
       have i1' := hi6.cell 1 _ rfl
       have f0x := hb7.cell 0 _ rfl
       have f2x := hb7.cell 2 _ rfl
       have i0x := hi7.cell 0 _ rfl
       have i1x := hi7.cell 1 _ rfl
       have z2x := hb7.fz 2
       have l2x := hb7.lt
       have HB7 := Lib.hid hb7
       have HM7 := Lib.hid hm7
       have HK7 : Hid (Keeps (fun g => g = bk) w2 w7) := Lib.hid (hk6.trans hk7)
       clear hn6 hk6 hb6 hi6 hm7 hk7 hb7 hi7
       go_region_held3 (fun wz => wz.cell? ⟨c, 0, none⟩ = some (.map (some bk)) ∧ wz.cell? ⟨w.heap.size, 0, none⟩ = some (.string p) ∧ wz.cell? ⟨w.heap.size, 1, none⟩ = some (.int .i64 kind))
        (first
          | exact ⟨f0, i0, i1⟩
          | exact ⟨f0', i0', i1'⟩
          | exact ⟨f0x, i0x, i1x⟩
          | exact ⟨by rw [World.cell?_setCell_other _ _ _ _ (by simp)]; exact f0x, by rw [World.cell?_setCell_other _ _ _ _ (by simp [hBc])]; exact i0x, by rw [World.cell?_setCell_other _ _ _ _ (by simp [hBc])]; exact i1x⟩)
        (fail)
       all_goals
        go_wp2_with fail
        go_ret
        rw [R0.out]
        refine ⟨rfl, fun _ => CkAt.put HC.out ⟨p, kind, mode, dat, ⟨#[]⟩⟩ HL.out (HB7.out.put 2 (.string p)) (HM7.out.keep (keeps_cell w7 ⟨c, 2, none⟩ _) hkc) ?_, (HX.out.2.2.2.step HK7.out (fun g e => .inl (.inl e))).setCell (p := ⟨c, 2, none⟩) (.inl (.inr (.inr rfl))) _⟩
        rw [if_neg (fun h => hkd h.2)]
        exact ((HC2.out.fm).keep HK7.out hfk).keep (keeps_cell w7 ⟨c, 2, none⟩ _) hfc
    ·have hsn : (!same.toList.isEmpty) = true := notEmpty_eq hs
     have hse : same.toList.isEmpty = false := by simpa using hsn
     have HSn : Hid (same ≠ ⟨#[]⟩) := Lib.hid hs
     have hz42 : ∀ wx : World, (zeroValue 42).run Tryz.prog wx = .ok (.agg #[.string ⟨#[]⟩, .int .i64 0, .int .i64 0, .string ⟨#[]⟩, .string ⟨#[]⟩]) wx := fun wx => by kernel_rfl
     have hlk : ∀ wx : World, Keeps NoB w2 wx -> (Instr.lookup 80 (.map (some bf)) (.string same) true).run Tryz.prog wx = .ok (.tuple #[((s.item same).getD zItm).v, .bool (s.item same).isSome]) wx := fun wx hk => by
      have := (HC2.out.fm.keep hk (fun h => h)).lookup2 (t := 80) Tryz.underlying80 Tryz.underlying9 (hz42 wx) same
      rw [s.fv_get] at this
      rw [this]
      cases s.item same <;> rfl
     have HRo : Hid (addE 0 up s ⟨p, kind, mode, dat, same⟩ = (match s.item same with | none => 22 | some o => if o.mode ≠ mode ∨ dat ≠ ⟨#[]⟩ then 22 else 0)) := Lib.hid (by unfold addE; rw [if_neg (by simp), if_neg (by rw [HL.out]; simp), if_neg HA.out, if_pos hs])
     obtain ⟨it, hit⟩ : ∃ it, s.item same = it := ⟨_, rfl⟩
     rw [hit] at hlk HRo
     obtain ⟨o, ho⟩ : ∃ o, it.getD zItm = o := ⟨_, rfl⟩
     rw [ho] at hlk
     obtain ⟨op, okd, om, od, os⟩ := o
     rw [show (Itm.v ⟨op, okd, om, od, os⟩) = .agg #[.string op, .int .i64 okd, .int .i64 om, .string od, .string os] from rfl] at hlk
     obtain ⟨ok, hok⟩ : ∃ ok, it.isSome = ok := ⟨_, rfl⟩
     rw [hok] at hlk
     have lkA := hlk w2.drew (Keeps.refl _ _).drew
     have lkB := hlk (w2.alloc (.cells #[.string ⟨#[]⟩, .int .i64 0, .int .i64 0, .string ⟨#[]⟩, .string ⟨#[]⟩] 42)).drew ((Keeps.refl _ _).alloc _).drew
     have lkC := hlk w2 (Keeps.refl _ _)
     have lkD := hlk (w2.alloc (.cells #[.string ⟨#[]⟩, .int .i64 0, .int .i64 0, .string ⟨#[]⟩, .string ⟨#[]⟩] 42)) ((Keeps.refl _ _).alloc _)
     clear hlk hs
     rcases hB with hup | ⟨hup, hk⟩ <;> (go_upto_region 10 with fail)
     all_goals
      (go_region)
      all_goals
       have kw : Keeps NoB w2 (w2.alloc (.cells #[.string op, .int .i64 okd, .int .i64 om, .string od, .string os] 42)).drew := ((Keeps.refl _ _).alloc _).drew
       have hb5 : Bk (w2.alloc (.cells #[.string op, .int .i64 okd, .int .i64 om, .string od, .string os] 42)).drew w2.heap.size [.string op, .int .i64 okd, .int .i64 om, .string od, .string os] := (Bk.new (Keeps.refl NoB (w2.alloc (.cells #[.string op, .int .i64 okd, .int .i64 om, .string od, .string os] 42)))).on (Keeps.refl _ _).drew
       have HK5 := Lib.hid (HK2.out.trans kw)
       have HC5 := Lib.hid (HC2.out.on kw)
       have HI5 := Lib.hid (HI2.out.on kw)
       clear kw lkA lkB lkC lkD lk f0 f1 f2 i0 i1 i2 i3 i4 fl il hz42
       generalize (w2.alloc (.cells #[.string op, .int .i64 okd, .int .i64 om, .string od, .string os] 42)).drew = w5 at *
       have f0 := HC5.out.bc.cell 0 _ rfl
       have f1 := HC5.out.bc.cell 1 _ rfl
       have f2 := HC5.out.bc.cell 2 _ rfl
       have i0 := HI5.out.cell 0 _ rfl
       have i1 := HI5.out.cell 1 _ rfl
       have i2 := HI5.out.cell 2 _ rfl
       have i3 := HI5.out.cell 3 _ rfl
       have i4 := HI5.out.cell 4 _ rfl
       have fl := HC5.out.bc.lt
       have il := HI5.out.lt
       have o2 := hb5.cell 2 _ rfl
       have ol := hb5.lt
       clear hb5
       rcases it with _ | it
       ·have hr : addE 0 up s ⟨p, kind, mode, dat, same⟩ = 22 := HRo.out
        obtain rfl : false = ok := hok
        have HR := Lib.hid hr
        clear hr HRo
        go_wp2
        go_ret
        rw [HR.out]
        exact ⟨rfl, fun h => absurd h (by decide), HK5.out.mono (fun g _ (h : False) => h.elim)⟩
       ·obtain rfl : true = ok := hok
        obtain rfl : it = ⟨op, okd, om, od, os⟩ := ho
        have hr : addE 0 up s ⟨p, kind, mode, dat, same⟩ = if om ≠ mode ∨ dat ≠ ⟨#[]⟩ then 22 else 0 := HRo.out
        clear HRo hit
        try clear ho
        try clear hok
        by_cases hm : om ≠ mode ∨ dat ≠ ⟨#[]⟩
        ·rw [if_pos hm] at hr
         have HR := Lib.hid hr
         have hm' : (om != mode) = true ∨ ((om != mode) = false ∧ (dat.toList.isEmpty = false ∧ (!dat.toList.isEmpty) = true)) := by
          by_cases he : om = mode
          ·have hd : dat ≠ ⟨#[]⟩ := by
            rcases hm with h | h
            ·exact absurd he h
            ·exact h
           have hdn := notEmpty_eq hd
           exact .inr ⟨by simp [he], by simpa using hdn, hdn⟩
          ·exact .inl (by simpa using he)
         clear hr hm
         rcases hm' with hm' | ⟨hm', hd1, hd2⟩
         all_goals
          go_wp2
          go_ret
          rw [HR.out]
          exact ⟨rfl, fun h => absurd h (by decide), HK5.out.mono (fun g _ (h : False) => h.elim)⟩
        ·rw [if_neg hm] at hr
         have R0 := Lib.hid hr
         have hm' : (om != mode) = false := by
          rcases Decidable.em (om = mode) with h | h
          ·simp [h]
          ·exact absurd (.inl h) hm
         have hd' : dat = ⟨#[]⟩ := by
          rcases Decidable.em (dat = ⟨#[]⟩) with h | h
          ·exact h
          ·exact absurd (.inr h) hm
         subst hd'
         clear hr hm
         go_upto_region 15 with fail
         have HX : Hid (Bk w5 c [.map (some bk), .map (some bf), .string s.last] ∧ SMap w5 bk s.kv ∧ Bk w5 w.heap.size [.string p, .int .i64 kind, .int .i64 mode, .string ⟨#[]⟩, .string same] ∧ Keeps (fun g => g = bk ∨ g = bf ∨ g = c) w w5) :=
          Lib.hid ⟨HC5.out.bc, HC5.out.km, HI5.out, HK5.out.mono (fun g _ (h : False) => h.elim)⟩
         have hBk : w.heap.size ≠ bk := Nat.ne_of_gt HC.out.km.lt
         have hck : c ≠ bk := fun e => HC.out.kc e.symm
         have hno := Ck.new_k HC.out.ik HL.out
         have hkc : bk ≠ c := HC.out.kc
         have hfk : bf ≠ bk := fun e => HC.out.kf e.symm
         have hfc : bf ≠ c := HC.out.fc
         have hBc : w.heap.size ≠ c := Nat.ne_of_gt HC.out.bc.lt
         have cl4 := HX.out.1.lt
         obtain ⟨st, w6, hrun6, hn6, hk6⟩ := (HX.out.2.1.keep (F := NoB) (w' := w5.drew) (by (repeat (first | with_reducible assumption | (with_reducible exact Keeps.refl _ _) | (with_reducible refine Keeps.drew ?_) | (with_reducible refine Keeps.drewN ?_ _) | (with_reducible refine Keeps.alloc ?_ _)))) (fun h => h)).entry (t := 79) Tryz.underlying79 Tryz.underlying9 hz3 p hno
         replace hk6 : Keeps (fun g => g = bk) w5 w6 := ⟨hk6.os, hk6.tape, hk6.output, hk6.size, hk6.block⟩
         have hb6 := HX.out.1.keep hk6 hck
         have hi6 := HX.out.2.2.1.keep hk6 hBk
         obtain ⟨w7, hrun7, hm7, hk7⟩ := hn6.store (.int .i64 kind)
         have hb7 := hb6.keep hk7 hck
         have hi7 := hi6.keep hk7 hBk
         have f0' := hb6.cell 0 _ rfl
         have f2' := hb6.cell 2 _ rfl
         have i0' := hi6.cell 0 _ rfl
         have i1' := hi6.cell 1 _ rfl
         have f0x := hb7.cell 0 _ rfl
         have f2x := hb7.cell 2 _ rfl
         have i0x := hi7.cell 0 _ rfl
         have i1x := hi7.cell 1 _ rfl
         have z2x := hb7.fz 2
         have l2x := hb7.lt
         have HB7 := Lib.hid hb7
         have HM7 := Lib.hid hm7
         have HK7 : Hid (Keeps (fun g => g = bk) w5 w7) := Lib.hid (hk6.trans hk7)
         clear hn6 hk6 hb6 hi6 hm7 hk7 hb7 hi7
         go_region_held3 (fun wz => wz.cell? ⟨c, 0, none⟩ = some (.map (some bk)) ∧ wz.cell? ⟨w.heap.size, 0, none⟩ = some (.string p) ∧ wz.cell? ⟨w.heap.size, 1, none⟩ = some (.int .i64 kind))
          (first
            | exact ⟨f0, i0, i1⟩
            | exact ⟨f0', i0', i1'⟩
            | exact ⟨f0x, i0x, i1x⟩
            | exact ⟨by rw [World.cell?_setCell_other _ _ _ _ (by simp)]; exact f0x, by rw [World.cell?_setCell_other _ _ _ _ (by simp [hBc])]; exact i0x, by rw [World.cell?_setCell_other _ _ _ _ (by simp [hBc])]; exact i1x⟩)
          (fail)
         all_goals
          go_wp2_with fail
          go_ret
          rw [R0.out]
          refine ⟨rfl, fun _ => CkAt.put HC.out ⟨p, kind, mode, ⟨#[]⟩, same⟩ HL.out (HB7.out.put 2 (.string p)) (HM7.out.keep (keeps_cell w7 ⟨c, 2, none⟩ _) hkc) ?_, (HX.out.2.2.2.step HK7.out (fun g e => .inl (.inl e))).setCell (p := ⟨c, 2, none⟩) (.inl (.inr (.inr rfl))) _⟩
          rw [if_neg (fun h => HSn.out h.1)]
          exact ((HC5.out.fm).keep HK7.out hfk).keep (keeps_cell w7 ⟨c, 2, none⟩ _) hfc
 ·have he : addE sh up s ⟨p, kind, mode, dat, same⟩ = sh := by unfold addE; rw [if_pos h0]
  rw [he]
  go_enter Tryz.func39, Tryz.ntmps39
  go_wp2_with (go_at_call 62; go_loud (refine (HS.out _).mono ?_); rintro e w1 ⟨rfl, hk1⟩)
  go_ret
  exact ⟨rfl, fun h => absurd h h0, (HK.out.trans hk1).mono (fun g _ (h : False) => h.elim)⟩
def rightB (s : ByteArray) : Bool := decide (1 <= s.size) && decide (s.size <= 4095) && !hasB s 0
def plainB (s : ByteArray) : Bool := rightB s && (pcs s).all okName
theorem empty_size (s : ByteArray) : s.toList.isEmpty = decide (s.size = 0) := by
 rw [isEmpty_eq]
 refine decide_eq_decide.2 ⟨fun h => by rw [h]; rfl, fun h => ?_⟩
 exact ByteArray.ext (Array.eq_empty_of_size_eq_zero h)
theorem bIdx_hasB (s : ByteArray) (c : UInt8) : hasB s c = decide (0 <= bIdx s c) := by
 rcases bIdx_cases s c with h | ⟨o, h⟩
 ·rw [h, decide_eq_false (by decide), Bool.eq_false_iff]
  intro hh
  obtain ⟨j, hj, e⟩ := (hasB_iff s c).1 hh
  exact bIdx_none h j hj e
 ·rw [h, decide_eq_true (by omega)]
  obtain ⟨ho, e, _⟩ := bIdx_some h
  exact (hasB_iff s c).2 ⟨o, ho, e⟩
theorem ppRight_any (s : ByteArray) (w : World) : Calls Tryz.prog 81 #[.string s] w fun e w' => e = .returned (.bool (rightB s)) ∧ w = w' := by
 have HI := Lib.hid (fun wx => ib_any s 0 wx)
 rw [show ((0 : Int)).toNat.toUInt8 = 0 from rfl] at HI
 have hz := empty_size s
 have hh : rightB s = (decide (1 <= s.size) && decide (s.size <= 4095) && !decide (0 <= bIdx s 0)) := by unfold rightB; rw [bIdx_hasB]
 have HH := Lib.hid hh
 clear hh
 generalize bIdx s 0 = k at *
 rw [HH.out]
 clear HH
 by_cases h0 : s.size = 0
 ·rw [decide_eq_true h0] at hz
  rw [decide_eq_false (by omega)]
  clear h0
  go_enter Tryz.func81, Tryz.ntmps81
  go_wp2
  go_ret
  exact ⟨rfl, rfl⟩
 ·rw [decide_eq_false h0] at hz
  rw [decide_eq_true (show 1 <= s.size by omega)]
  clear h0
  by_cases h1 : s.size <= 4095
  ·rw [decide_eq_true h1]
   have h2 : (s.size : Int) <= 4095 := by omega
   have hk : (!decide (0 <= k)) = decide (k < 0) := by
    rw [<- decide_not]
    exact decide_eq_decide.2 (by omega)
   rw [Bool.true_and, Bool.true_and, hk]
   clear h1 hk
   go_enter Tryz.func81, Tryz.ntmps81
   go_wp2_with (go_at_call 104; go_loud (refine (HI.out _).mono ?_); rintro e w3 ⟨rfl, rfl⟩)
   go_ret
   exact ⟨rfl, rfl⟩
  ·rw [decide_eq_false h1]
   have h2 : ¬ (s.size : Int) <= 4095 := by omega
   clear h1
   go_enter Tryz.func81, Tryz.ntmps81
   go_wp2
   go_ret
   exact ⟨rfl, rfl⟩
theorem ppPlain_any (s : ByteArray) (hs : s.size <= 1000000) (w : World) : Calls Tryz.prog 93 #[.string s] w fun e w' => e = .returned (.bool (plainB s)) ∧ Keeps NoB w w' := by
 have HR := Lib.hid (fun w1 : World => ppRight_any s w1)
 have HN := Lib.hid (fun (p : ByteArray) (w1 : World) => name_any p w1)
 have HS := Lib.hid (fun w1 : World => split_any s w1 (by omega))
 have hlen := pcs_length s
 have HP : Hid (plainB s = (rightB s && (pcs s).all okName)) := Lib.hid rfl
 have hpos : 0 < (pcs s).length := by
  unfold pcs
  rw [List.length_map]
  exact List.length_pos_iff.2 (pcsL_ne _)
 generalize plainB s = PB at *
 generalize pcs s = l at *
 generalize rightB s = rb at *
 cases rb with
 | false =>
   have HF : Hid (PB = false) := Lib.hid (by rw [HP.out]; rfl)
   go_enter Tryz.func93, Tryz.ntmps93
   go_wp2_with (go_at_call 81; go_loud (refine (HR.out _).mono ?_); rintro e w1 ⟨rfl, rfl⟩)
   go_ret
   rw [HF.out]
   exact ⟨rfl, Keeps.refl _ _⟩
 | true =>
   have HPl : Hid (PB = l.all okName) := Lib.hid (by rw [HP.out, Bool.true_and])
   go_enter Tryz.func93, Tryz.ntmps93
   go_upto_region 4 with (first | (go_at_call 81; go_loud (refine (HR.out _).mono ?_); rintro e w1 ⟨rfl, rfl⟩) | (go_at_call 126; go_loud (refine (HS.out _).mono ?_); rintro e w2 ⟨v, rfl, hown, hk2⟩; obtain ⟨gb, cap, cur, rfl, _, hcb, hc1, hc2, _, _⟩ := hown.row hpos))
   have hat := Lib.hid hown.at
   have HK := Lib.hid hk2
   unfold maxLen at hc2
   clear hown hcb hk2
   go_loop [11] (fun i => ∃ k : Nat, k <= l.length ∧ i = .int .i64 k ∧ Hid ((l.take k).all okName = true)) (fun i => l.length + 1 - (intOf i).toNat)
   case atStart => exact ⟨0, Nat.zero_le _, rfl, Lib.hid rfl⟩
   case round =>
    obtain ⟨k, hk, rfl, hI⟩ := hrel
    by_cases hlt : k < l.length
    ·obtain ⟨x, hx⟩ : ∃ x, l[k]? = some x := ⟨_, List.getElem?_eq_getElem hlt⟩
     obtain ⟨g', off, he, _, _, f0⟩ := hat.out.str hx
     cases he
     rw [Nat.zero_add] at f0
     have fl := lt_of_cell f0
     have HNx := Lib.hid (HN.out x)
     have HSt : Hid ((l.take (k + 1)).all okName = okName x) := Lib.hid (by rw [List.take_add_one, hx, List.all_append, hI.out]; simp)
     have HAll : Hid (okName x = false -> l.all okName = false) := Lib.hid (fun h => by
      rw [Bool.eq_false_iff]
      intro h2
      rw [List.all_eq_true.1 h2 x (List.mem_of_getElem? hx)] at h
      cases h)
     clear hx hI
     generalize okName x = b at *
     cases b
     ·go_wp2_with (go_at_call 127; go_loud (refine (HNx.out _).mono ?_); rintro e w3 ⟨rfl, rfl⟩)
      go_ret
      rw [HPl.out, HAll.out (by first | exact trivial | rfl)]
      exact ⟨rfl, HK.out⟩
     ·go_wp2_with (go_at_call 127; go_loud (refine (HNx.out _).mono ?_); rintro e w3 ⟨rfl, rfl⟩)
      go_round
      case rel => exact ⟨k + 1, by omega, by go_num, HSt⟩
      case measure => (simp [intOf]) <;> omega
    ·obtain rfl : k = l.length := by omega
     have hI2 := hI.out
     rw [List.take_length] at hI2
     have HE : Hid (PB = true) := Lib.hid (HPl.out.trans hI2)
     clear hI hI2
     go_wp2
     go_ret
     rw [HE.out]
     exact ⟨rfl, HK.out⟩
def bodE (i : Itm) : Int :=
 if (i.kind = 2 ∧ i.dat ≠ ⟨#[]⟩) ∨ (i.kind ≠ 1 ∧ i.same ≠ ⟨#[]⟩) then 43
 else if (i.kind = 1 ∧ 4194304 < i.dat.size) ∨ (i.kind = 3 ∧ 4095 < i.dat.size) then 18
 else if i.kind = 3 ∧ rightB i.dat = false then 11 else 0
def shpE (i : Itm) : Int :=
 if plainB i.p = false then 11 else if i.kind < 1 ∨ 3 < i.kind then 43 else if (i.mode < 0 ∨ 4095 < i.mode) ∨ (i.kind = 3 ∧ i.mode ≠ 511) then 10 else bodE i
theorem modeRight_any (m : Int) (w : World) : Calls Tryz.prog 94 #[.int .i64 m] w fun e w' => e = .returned (.bool (!decide (m < 0 ∨ 4095 < m))) ∧ w = w' := by
 have h : (m < 0 ∧ decide (m < 0 ∨ 4095 < m) = true) ∨ (0 <= m ∧ 4095 < m ∧ decide (m < 0 ∨ 4095 < m) = true) ∨ (0 <= m ∧ m <= 4095 ∧ decide (m < 0 ∨ 4095 < m) = false) := by
  by_cases h1 : m < 0
  ·exact .inl ⟨h1, decide_eq_true (.inl h1)⟩
  ·by_cases h2 : 4095 < m
   ·exact .inr (.inl ⟨by omega, h2, decide_eq_true (.inr h2)⟩)
   ·exact .inr (.inr ⟨by omega, by omega, decide_eq_false (by omega)⟩)
 generalize decide (m < 0 ∨ 4095 < m) = b at *
 rcases h with ⟨h1, rfl⟩ | ⟨h1, h2, rfl⟩ | ⟨h1, h2, rfl⟩
 ·have h3 : ¬ 0 <= m := by omega
  go_enter Tryz.func94, Tryz.ntmps94
  go_wp2
  go_ret
  exact ⟨rfl, rfl⟩
 ·have h3 : ¬ m <= 4095 := by omega
  go_enter Tryz.func94, Tryz.ntmps94
  go_wp2
  go_ret
  exact ⟨rfl, rfl⟩
 ·go_enter Tryz.func94, Tryz.ntmps94
  go_wp2
  go_ret
  exact ⟨rfl, rfl⟩
theorem body_any (i : Itm) (hk : 1 <= i.kind ∧ i.kind <= 3) (w : World) : Calls Tryz.prog 95 #[i.v] w fun e w' => e = .returned (.int .i64 (bodE i)) ∧ Keeps NoB w w' := by
 obtain ⟨p, kind, mode, dat, same⟩ := i
 have HR := Lib.hid (fun w1 : World => ppRight_any dat w1)
 show Calls Tryz.prog 95 #[.agg #[.string p, .int .i64 kind, .int .i64 mode, .string dat, .string same]] w _
 have HK := Lib.hid ((Keeps.refl NoB w).alloc (.cells #[.string p, .int .i64 kind, .int .i64 mode, .string dat, .string same] 42))
 have hB : Hid (bodE ⟨p, kind, mode, dat, same⟩ = if (kind = 2 ∧ dat ≠ ⟨#[]⟩) ∨ (kind ≠ 1 ∧ same ≠ ⟨#[]⟩) then 43 else if (kind = 1 ∧ 4194304 < dat.size) ∨ (kind = 3 ∧ 4095 < dat.size) then 18 else if kind = 3 ∧ rightB dat = false then 11 else 0) := Lib.hid rfl
 generalize bodE ⟨p, kind, mode, dat, same⟩ = R at *
 have hd : (dat = ⟨#[]⟩) ∨ (dat ≠ ⟨#[]⟩ ∧ (!dat.toList.isEmpty) = true ∧ dat.toList.isEmpty = false) := by
  rcases Decidable.em (dat = ⟨#[]⟩) with h | h
  ·exact .inl h
  ·exact .inr ⟨h, notEmpty_eq h, by simpa using notEmpty_eq h⟩
 have hsm : (same = ⟨#[]⟩) ∨ (same ≠ ⟨#[]⟩ ∧ (!same.toList.isEmpty) = true ∧ same.toList.isEmpty = false) := by
  rcases Decidable.em (same = ⟨#[]⟩) with h | h
  ·exact .inl h
  ·exact .inr ⟨h, notEmpty_eq h, by simpa using notEmpty_eq h⟩
 have hkk : kind = 1 ∨ kind = 2 ∨ kind = 3 := by
  have h1 : 1 <= kind := hk.1
  have h2 : kind <= 3 := hk.2
  omega
 clear hk
 rcases hkk with rfl | rfl | rfl
 ·by_cases hz : 4194304 < dat.size
  ·have hz' : (4194304 : Int) < (dat.size : Int) := by omega
   have HE : Hid (R = 18) := Lib.hid (hB.out.trans (by rw [if_neg (by simp), if_pos (.inl ⟨rfl, hz⟩)]))
   clear hz hd hsm
   go_enter Tryz.func95, Tryz.ntmps95
   go_wp2
   go_ret
   rw [HE.out]
   exact ⟨rfl, HK.out⟩
  ·have hz' : ¬ (4194304 : Int) < (dat.size : Int) := by omega
   have HE : Hid (R = 0) := Lib.hid (hB.out.trans (by rw [if_neg (by simp), if_neg (by simpa using hz), if_neg (by simp)]))
   clear hz hd hsm
   go_enter Tryz.func95, Tryz.ntmps95
   go_wp2
   go_ret
   rw [HE.out]
   exact ⟨rfl, HK.out⟩
 ·have HE : Hid (R = (if dat ≠ ⟨#[]⟩ ∨ same ≠ ⟨#[]⟩ then 43 else 0)) := Lib.hid (hB.out.trans <| by
   by_cases h : dat ≠ ⟨#[]⟩ ∨ same ≠ ⟨#[]⟩
   ·rw [if_pos h, if_pos (h.imp (fun x => ⟨rfl, x⟩) (fun x => ⟨by decide, x⟩))]
   ·rw [if_neg h, if_neg (fun x => h (x.imp And.right And.right)), if_neg (by simp), if_neg (by simp)])
  rcases hd with rfl | ⟨hd0, hd1, hd2⟩
  ·rcases hsm with rfl | ⟨hs0, hs1, hs2⟩
   ·have HE2 := Lib.hid (HE.out.trans (if_neg (by simp)))
    go_enter Tryz.func95, Tryz.ntmps95
    go_wp2
    go_ret
    rw [HE2.out]
    exact ⟨rfl, HK.out⟩
   ·have HE2 := Lib.hid (HE.out.trans (if_pos (.inr hs0)))
    clear hs0
    go_enter Tryz.func95, Tryz.ntmps95
    go_wp2
    go_ret
    rw [HE2.out]
    exact ⟨rfl, HK.out⟩
  ·have HE2 := Lib.hid (HE.out.trans (if_pos (.inl hd0)))
   clear hd0 hsm
   go_enter Tryz.func95, Tryz.ntmps95
   go_wp2
   go_ret
   rw [HE2.out]
   exact ⟨rfl, HK.out⟩
 ·have HE : Hid (R = (if same ≠ ⟨#[]⟩ then 43 else if 4095 < dat.size then 18 else if rightB dat = false then 11 else 0)) := Lib.hid (hB.out.trans <| by
   by_cases h : same ≠ ⟨#[]⟩
   ·rw [if_pos h, if_pos (.inr ⟨by decide, h⟩)]
   ·rw [if_neg h, if_neg (fun x => x.elim (fun y => absurd y.1 (by decide)) (fun y => h y.2))]
    by_cases h2 : 4095 < dat.size
    ·rw [if_pos h2, if_pos (.inr ⟨rfl, h2⟩)]
    ·rw [if_neg h2, if_neg (fun x => x.elim (fun y => absurd y.1 (by decide)) (fun y => h2 y.2))]
     simp)
  rcases hsm with rfl | ⟨hs0, hs1, hs2⟩
  ·by_cases hz : 4095 < dat.size
   ·have hz' : (4095 : Int) < (dat.size : Int) := by omega
    have HE2 := Lib.hid (HE.out.trans ((if_neg (by simp)).trans (if_pos hz)))
    clear hz hd
    go_enter Tryz.func95, Tryz.ntmps95
    go_wp2
    go_ret
    rw [HE2.out]
    exact ⟨rfl, HK.out⟩
   ·have hz' : ¬ (4095 : Int) < (dat.size : Int) := by omega
    have HE2 := Lib.hid (HE.out.trans ((if_neg (by simp)).trans (if_neg hz)))
    clear hz hd HE
    generalize rightB dat = b at *
    cases b
    all_goals
     go_enter Tryz.func95, Tryz.ntmps95
     go_wp2_with (go_at_call 81; go_loud (refine (HR.out _).mono ?_); rintro e w1 ⟨rfl, rfl⟩)
     go_ret
     refine ⟨ret_i64 ?_, HK.out⟩
     rw [HE2.out]
     rfl
  ·have HE2 := Lib.hid (HE.out.trans (if_pos hs0))
   clear hs0 hd
   go_enter Tryz.func95, Tryz.ntmps95
   go_wp2
   go_ret
   rw [HE2.out]
   exact ⟨rfl, HK.out⟩
theorem shape_any (i : Itm) (hp : i.p.size <= 1000000) (w : World) : Calls Tryz.prog 62 #[i.v] w fun e w' => e = .returned (.int .i64 (shpE i)) ∧ Keeps NoB w w' := by
 have HP := Lib.hid (fun w1 : World => ppPlain_any i.p hp w1)
 have HM := Lib.hid (fun w1 : World => modeRight_any i.mode w1)
 have HB := Lib.hid (fun (hk : 1 <= i.kind ∧ i.kind <= 3) (w1 : World) => body_any i hk w1)
 have HE : Hid (shpE i = if plainB i.p = false then 11 else if i.kind < 1 ∨ 3 < i.kind then 43 else if (decide (i.mode < 0 ∨ 4095 < i.mode)) = true ∨ (i.kind = 3 ∧ i.mode ≠ 511) then 10 else bodE i) := Lib.hid (by
  unfold shpE
  by_cases h : i.mode < 0 ∨ 4095 < i.mode
  ·simp [h]
  ·simp [h])
 generalize bodE i = be at *
 generalize shpE i = se at *
 obtain ⟨p, kind, mode, dat, same⟩ := i
 have HB : Hid (1 <= kind ∧ kind <= 3 -> ∀ w1 : World, Calls Tryz.prog 95 #[.agg #[.string p, .int .i64 kind, .int .i64 mode, .string dat, .string same]] w1 fun e w' => e = .returned (.int .i64 be) ∧ Keeps NoB w1 w') := HB
 simp only at HP HM HE
 generalize plainB p = pb at *
 have hmq : Hid (decide (mode < 0 ∨ 4095 < mode) = true -> mode ≠ 511) := Lib.hid (fun h => by
  have := of_decide_eq_true h
  omega)
 generalize decide (mode < 0 ∨ 4095 < mode) = mb at *
 show Calls Tryz.prog 62 #[.agg #[.string p, .int .i64 kind, .int .i64 mode, .string dat, .string same]] w _
 have HK := Lib.hid ((Keeps.refl NoB w).alloc (.cells #[.string p, .int .i64 kind, .int .i64 mode, .string dat, .string same] 42))
 have HI := Lib.hid (Bk.new (Keeps.refl NoB (w.alloc (.cells #[.string p, .int .i64 kind, .int .i64 mode, .string dat, .string same] 42))))
 clear hp
 cases pb with
 | false =>
   have HE2 := Lib.hid (HE.out.trans (if_pos rfl))
   go_enter Tryz.func62, Tryz.ntmps62
   go_wp2_with (go_at_call 93; go_loud (refine (HP.out _).mono ?_); rintro e w1 ⟨rfl, hk1⟩; have hb := HI.out.on hk1; have b0 := hb.cell 0 _ rfl; have b1 := hb.cell 1 _ rfl; have b2 := hb.cell 2 _ rfl; have b3 := hb.cell 3 _ rfl; have b4 := hb.cell 4 _ rfl; have bl := hb.lt)
   go_ret
   rw [HE2.out]
   exact ⟨rfl, HK.out.trans hk1⟩
 | true =>
   have HE2 := Lib.hid (HE.out.trans (if_neg (by simp)))
   clear HE
   by_cases hk : kind < 1 ∨ 3 < kind
   ·have HE3 := Lib.hid (HE2.out.trans (if_pos hk))
    have hk' : kind < 1 ∨ (¬ kind < 1 ∧ 3 < kind) := by omega
    clear HE2 hk
    rcases hk' with hk' | ⟨hk', hk''⟩
    all_goals
     go_enter Tryz.func62, Tryz.ntmps62
     go_wp2_with (go_at_call 93; go_loud (refine (HP.out _).mono ?_); rintro e w1 ⟨rfl, hk1⟩; have hb := HI.out.on hk1; have b0 := hb.cell 0 _ rfl; have b1 := hb.cell 1 _ rfl; have b2 := hb.cell 2 _ rfl; have b3 := hb.cell 3 _ rfl; have b4 := hb.cell 4 _ rfl; have bl := hb.lt)
     go_ret
     rw [HE3.out]
     exact ⟨rfl, HK.out.trans hk1⟩
   ·have HE3 := Lib.hid (HE2.out.trans (if_neg hk))
    have HBk := Lib.hid (HB.out ⟨by omega, by omega⟩)
    have hk1' : ¬ kind < 1 := fun h => hk (.inl h)
    have hk2' : ¬ 3 < kind := fun h => hk (.inr h)
    clear HE2 hk HB
    cases mb with
    | true =>
      have HE4 := Lib.hid (HE3.out.trans (if_pos (.inl rfl)))
      go_enter Tryz.func62, Tryz.ntmps62
      go_wp2_with (first | (go_at_call 93; go_loud (refine (HP.out _).mono ?_); rintro e w1 ⟨rfl, hk1⟩; have hb := HI.out.on hk1; have b0 := hb.cell 0 _ rfl; have b1 := hb.cell 1 _ rfl; have b2 := hb.cell 2 _ rfl; have b3 := hb.cell 3 _ rfl; have b4 := hb.cell 4 _ rfl; have bl := hb.lt) | (go_at_call 94; go_loud (refine (HM.out _).mono ?_); rintro e w2 ⟨rfl, rfl⟩))
      go_ret
      rw [HE4.out]
      exact ⟨rfl, HK.out.trans hk1⟩
    | false =>
      by_cases h3 : kind = 3 ∧ mode ≠ 511
      ·have HE4 := Lib.hid (HE3.out.trans (if_pos (.inr h3)))
       obtain ⟨rfl, hm⟩ := h3
       have hm' : (mode != 511) = true := by simpa using hm
       clear hm
       go_enter Tryz.func62, Tryz.ntmps62
       go_wp2_with (first | (go_at_call 93; go_loud (refine (HP.out _).mono ?_); rintro e w1 ⟨rfl, hk1⟩; have hb := HI.out.on hk1; have b0 := hb.cell 0 _ rfl; have b1 := hb.cell 1 _ rfl; have b2 := hb.cell 2 _ rfl; have b3 := hb.cell 3 _ rfl; have b4 := hb.cell 4 _ rfl; have bl := hb.lt) | (go_at_call 94; go_loud (refine (HM.out _).mono ?_); rintro e w2 ⟨rfl, rfl⟩))
       go_ret
       rw [HE4.out]
       exact ⟨rfl, HK.out.trans hk1⟩
      ·have HE4 := Lib.hid (HE3.out.trans (if_neg (by simp only [Bool.false_eq_true, false_or]; exact h3)))
       have hkm : (kind == 3) = false ∨ (kind = 3 ∧ mode = 511) := by
        by_cases h : kind = 3
        ·exact .inr ⟨h, Decidable.byContradiction fun e => h3 ⟨h, e⟩⟩
        ·exact .inl (by simpa using h)
       clear h3
       rcases hkm with hkm | ⟨rfl, rfl⟩
       all_goals
        go_enter Tryz.func62, Tryz.ntmps62
        go_wp2_with (first | (go_at_call 93; go_loud (refine (HP.out _).mono ?_); rintro e w1 ⟨rfl, hk1⟩; have hb := HI.out.on hk1; have b0 := hb.cell 0 _ rfl; have b1 := hb.cell 1 _ rfl; have b2 := hb.cell 2 _ rfl; have b3 := hb.cell 3 _ rfl; have b4 := hb.cell 4 _ rfl; have bl := hb.lt) | (go_at_call 94; go_loud (refine (HM.out _).mono ?_); rintro e w2 ⟨rfl, rfl⟩) | (go_at_call 95; go_loud (refine (HBk.out _).mono ?_); rintro e w3 ⟨rfl, hk3⟩))
        go_ret
        rw [HE4.out]
        exact ⟨rfl, (HK.out.trans hk1).trans hk3⟩
theorem sub_at (s : ByteArray) (n j : Nat) (hj : j < n) : (s.extract 0 n).data.toList[j]? = s.data.toList[j]? := by
 rw [data_extract, List.drop_zero, List.getElem?_take, if_pos hj]
theorem trimb_one (s : ByteArray) (w : World) (h1 : 2 <= s.size) (hm : s.size <= 4294967296) (he : endS s = true) (hne : endS (s.extract 0 (s.size - 1)) = false) :
 Calls Tryz.prog 146 #[.string s, .int .u8 47] w fun e w' => e = .returned (.string (s.extract 0 (s.size - 1))) ∧ w = w' := by
 obtain ⟨y, hy⟩ : ∃ y, s.extract 0 (s.size - 1) = y := ⟨_, rfl⟩
 rw [hy] at hne ⊢
 have hys : Hid (y.size = s.size - 1) := Lib.hid (by rw [<- hy, ByteArray.size_extract]; omega)
 have hy1 : 1 <= y.size := by rw [hys.out]; omega
 have hb : ((y[y.size - 1].toNat : Int) == 47) = false := by
  rw [endS_last y hy1, decide_eq_false_iff_not] at hne
  rw [byte_eq _ _ (by decide) (by decide), decide_eq_false_iff_not]
  exact hne
 have hb2 : ((s[s.size - 1].toNat : Int) == 47) = true := by
  rw [endS_last s (by omega), decide_eq_true_iff] at he
  rw [byte_eq _ _ (by decide) (by decide), decide_eq_true_iff]
  exact he
 have hm2 : y.size <= 4294967296 := by rw [hys.out]; omega
 have hs2 := Lib.hid (show y.size < s.size by have := hys.out; omega)
 have hyq := Lib.hid hy
 clear hne he hy
 go_enter Tryz.func146, Tryz.ntmps146
 go_wp2
 go_loop [0] (fun v => v = .string s ∨ v = .string y) (fun v => match v with | .string x => x.size | _ => 0)
 case atStart => exact .inl rfl
 case round =>
  rcases hrel with rfl | rfl
  ·go_wp2
   go_round
   case rel => exact .inr (by rw [<- hyq.out])
   case measure =>
    rw [hyq.out]
    exact hs2.out
  ·go_wp2
   go_ret
   exact ⟨rfl, rfl⟩
theorem trim_one (s : ByteArray) (w : World) (h1 : 2 <= s.size) (hm : s.size <= 4294967296) (he : endS s = true) (hne : endS (s.extract 0 (s.size - 1)) = false) :
 Calls Tryz.prog 128 #[.string s, .string slashB] w fun e w' => e = .returned (.string (s.extract 0 (s.size - 1))) ∧ w = w' := by
 have HT := Lib.hid (trimb_one s w h1 hm he hne)
 have hz : (!s.toList.isEmpty) = true := notEmpty_eq (fun e => by subst e; exact absurd h1 (by decide))
 have hz2 : s.toList.isEmpty = false := by simpa using hz
 clear hne he
 generalize s.extract 0 (s.size - 1) = y at *
 go_enter Tryz.func128, Tryz.ntmps128
 go_wp2_with (go_at_call 146; go_loud (refine HT.out.mono ?_); rintro e w1 ⟨rfl, rfl⟩)
 go_ret
 exact ⟨rfl, rfl⟩
theorem bare_same (s : ByteArray) (w : World) (h1 : 1 <= s.size) (hm : s.size <= 4294967296) (hne : endS s = false) : Calls Tryz.prog 96 #[.string s] w fun e w' => e = .returned (.string s) ∧ w = w' := by
 have HT := Lib.hid (fun w1 : World => trim_sameT s w1 h1 hm hne)
 have hz : (!s.toList.isEmpty) = true := notEmpty_eq (fun e => by subst e; exact absurd h1 (by decide))
 have hz2 : s.toList.isEmpty = false := by simpa using hz
 clear hne
 go_enter Tryz.func96, Tryz.ntmps96
 go_wp2_with (go_at_call 128; go_loud (refine (HT.out _).mono ?_); rintro e w1 ⟨rfl, rfl⟩)
 go_ret
 exact ⟨rfl, rfl⟩
theorem bare_one (s : ByteArray) (w : World) (h1 : 2 <= s.size) (hm : s.size <= 4294967296) (he : endS s = true) (hne : endS (s.extract 0 (s.size - 1)) = false) : Calls Tryz.prog 96 #[.string s] w fun e w' => e = .returned (.string (s.extract 0 (s.size - 1))) ∧ w = w' := by
 have HT := Lib.hid (fun w1 : World => trim_one s w1 h1 hm he hne)
 have hys : (s.extract 0 (s.size - 1)).size = s.size - 1 := by rw [ByteArray.size_extract]; omega
 generalize s.extract 0 (s.size - 1) = y at *
 have hz : (!y.toList.isEmpty) = true := notEmpty_eq (fun e => by subst e; have h5 : 0 = s.size - 1 := hys; omega)
 have hz2 : y.toList.isEmpty = false := by simpa using hz
 clear hne he hys
 go_enter Tryz.func96, Tryz.ntmps96
 go_wp2_with (go_at_call 128; go_loud (refine (HT.out _).mono ?_); rintro e w1 ⟨rfl, rfl⟩)
 go_ret
 exact ⟨rfl, rfl⟩
/-! A plain path's slashes -/
theorem pcs_slash : ∀ l : List UInt8, (∀ p ∈ (pcsL l).tail, p ≠ []) -> ∀ i, l[i]? = some 47 -> i + 1 < l.length ∧ l[i + 1]? ≠ some 47
 | [], _, i, h => by simp at h
 | c :: s, hp, i, h => by
   unfold pcsL at hp
   by_cases hc : c = 47
   ·rw [if_pos hc] at hp
    simp only [List.tail_cons] at hp
    have h2 := pcs_slash s (fun p hm => hp p (List.mem_of_mem_tail hm))
    rcases i with _ | i
    ·rcases s with _ | ⟨d, s⟩
     ·exact absurd rfl (hp [] (by simp [pcsL]))
     ·refine ⟨by simp, fun h3 => ?_⟩
      simp only [List.getElem?_cons_succ, List.getElem?_cons_zero, Option.some.injEq] at h3
      exact absurd rfl (hp [] (by unfold pcsL; rw [if_pos h3]; simp))
    ·simp only [List.getElem?_cons_succ] at h
     have h3 := h2 i h
     exact ⟨by rw [List.length_cons]; omega, by simpa using h3.2⟩
   ·rw [if_neg hc] at hp
    have h2 := pcs_slash s (fun p hm => hp p (by
     rcases e : pcsL s with _ | ⟨q, r⟩
     ·exact absurd e (pcsL_ne s)
     ·rw [e] at hm; simp only [List.tail_cons] at hm ⊢; exact hm))
    rcases i with _ | i
    ·simp only [List.getElem?_cons_zero, Option.some.injEq] at h
     exact absurd h hc
    ·simp only [List.getElem?_cons_succ] at h
     have h3 := h2 i h
     exact ⟨by rw [List.length_cons]; omega, by simpa using h3.2⟩
theorem pcs_head {l : List UInt8} (h : ∀ p ∈ pcsL l, p ≠ []) : l.head? ≠ some 47 := by
 rcases l with _ | ⟨c, s⟩
 ·simp
 ·intro hc
  simp only [List.head?_cons, Option.some.injEq] at hc
  exact absurd rfl (h [] (by unfold pcsL; rw [if_pos hc]; simp))
theorem plain_pcs {s : ByteArray} (h : plainB s = true) : (∀ p ∈ pcsL s.data.toList, p ≠ []) ∧ 1 <= s.size ∧ s.size <= 4095 := by
 unfold plainB rightB at h
 simp only [Bool.and_eq_true, decide_eq_true_eq] at h
 refine ⟨fun p hp e => ?_, h.1.1.1, h.1.1.2⟩
 have h2 := List.all_eq_true.1 h.2 (ofL p) (List.mem_map.2 ⟨p, hp, rfl⟩)
 subst e
 exact absurd h2 (by decide)
theorem endS_of {s : ByteArray} (h : s.data.toList[s.size - 1]? ≠ some 47) : endS s = false := by
 unfold endS
 exact decide_eq_false fun e => h e.2
theorem plain_slash {s : ByteArray} (h : plainB s = true) (i : Nat) (hi : s.data.toList[i]? = some 47) : 1 <= i ∧ i + 1 < s.size ∧ s.data.toList[i - 1]? ≠ some 47 := by
 obtain ⟨hp, h1, _⟩ := plain_pcs h
 have hsl := pcs_slash _ (fun p hm => hp p (List.mem_of_mem_tail hm))
 have h3 := hsl i hi
 rw [len_data] at h3
 have h0 : 1 <= i := by
  rcases i with _ | i
  ·exact absurd (by rw [List.head?_eq_getElem?]; exact hi) (pcs_head hp)
  ·omega
 refine ⟨h0, h3.1, fun e => ?_⟩
 have h4 := (hsl (i - 1) e).2
 rw [show i - 1 + 1 = i by omega] at h4
 exact h4 hi
theorem plain_end {s : ByteArray} (h : plainB s = true) : endS s = false :=
 endS_of fun e => by
  have h1 := plain_slash h _ e
  omega
def upB (s : ByteArray) : ByteArray := if lastI s 47 s.size < 0 then ⟨#[46]⟩ else s.extract 0 (lastI s 47 s.size).toNat
theorem lastI_at (s : ByteArray) (c : UInt8) : ∀ n i : Nat, lastI s c n = (i : Int) -> s.data.toList[i]? = some c
 | 0, i, h => by unfold lastI at h; omega
 | k + 1, i, h => by
   unfold lastI at h
   split at h
   ·next e => obtain rfl : k = i := by omega
              exact e
   ·exact lastI_at s c k i h
theorem dir_any (s : ByteArray) (h : plainB s = true) (w : World) : Calls Tryz.prog 63 #[.string s] w fun e w' => e = .returned (.string (upB s)) ∧ w = w' := by
 obtain ⟨_, h1, h2⟩ := plain_pcs h
 have HB := Lib.hid (fun w1 : World => bare_same s w1 h1 (by omega) (plain_end h))
 have HL := Lib.hid (fun w1 : World => lastx s 47 w1 (by omega))
 have hr := lastI_range s 47 s.size
 have hat := lastI_at s 47 s.size
 have hU : upB s = if lastI s 47 s.size < 0 then ⟨#[46]⟩ else s.extract 0 (lastI s 47 s.size).toNat := rfl
 have HU := Lib.hid hU
 have hq : (s.toList == [47]) = false := by
  rw [beq_eq_false_iff_ne]
  intro e
  rw [Lib.toList_data] at e
  have := plain_slash h 0 (by rw [e]; rfl)
  omega
 generalize upB s = U at *
 generalize lastI s 47 s.size = r at *
 by_cases hneg : r < 0
 ·have HE := Lib.hid (HU.out.trans (if_pos hneg))
  clear hat hU
  go_enter Tryz.func63, Tryz.ntmps63
  go_wp2_with (first | (go_at_call 96; go_loud (refine (HB.out _).mono ?_); rintro e w1 ⟨rfl, rfl⟩) | (go_at_call 64; go_loud (refine (HL.out _).mono ?_); rintro e w2 ⟨rfl, rfl⟩))
  go_ret
  rw [HE.out]
  exact ⟨rfl, rfl⟩
 ·obtain ⟨i, rfl⟩ : ∃ i : Nat, r = i := ⟨r.toNat, by omega⟩
  have HE := Lib.hid (HU.out.trans (if_neg hneg))
  have hps := plain_slash h i (hat i rfl)
  have hsz : (s.extract 0 (i + 1)).size = i + 1 := by rw [ByteArray.size_extract]; omega
  have hex : (s.extract 0 (i + 1)).extract 0 i = s.extract 0 i := by
   apply ba_eq
   rw [data_extract, data_extract, data_extract]
   simp only [List.drop_zero, List.take_take]
   rw [Nat.min_eq_left (by omega)]
  have he1 : endS (s.extract 0 (i + 1)) = true := by
   unfold endS
   rw [hsz]
   exact decide_eq_true ⟨by omega, by rw [show i + 1 - 1 = i from rfl, sub_at s (i + 1) i (by omega)]; exact hat i rfl⟩
  have he2 : endS ((s.extract 0 (i + 1)).extract 0 ((s.extract 0 (i + 1)).size - 1)) = false := by
   rw [hsz, show i + 1 - 1 = i from rfl, hex]
   refine endS_of ?_
   have hzi : (s.extract 0 i).size = i := by rw [ByteArray.size_extract]; omega
   rw [hzi, sub_at s i (i - 1) (by omega)]
   exact hps.2.2
  have hb2 := fun w1 : World => bare_one (s.extract 0 (i + 1)) w1 (by omega) (by omega) he1 he2
  rw [hsz, show i + 1 - 1 = i from rfl, hex] at hb2
  have HB2 := Lib.hid hb2
  have hi1 : (i : Int) + 1 <= (s.size : Int) := by omega
  have hi9 : (i : Int) <= 5000 := by omega
  have hi0 : (0 : Int) <= (i : Int) := by omega
  have HE2 : Hid (U = s.extract 0 i) := HE
  clear hat hU hb2 he1 he2 hex hsz hps HE
  generalize hy : s.extract 0 i = y at *
  go_enter Tryz.func63, Tryz.ntmps63
  go_wp2_with (first | (go_at_call 96; go_loud (first | (with_reducible refine (HB.out _).mono ?_) | (with_reducible refine (HB2.out _).mono ?_)); rintro e w1 ⟨rfl, rfl⟩) | (go_at_call 64; go_loud (refine (HL.out _).mono ?_); rintro e w2 ⟨rfl, rfl⟩))
  go_ret
  rw [HE2.out]
  exact ⟨rfl, rfl⟩
def encItm : Enc Itm where
 enc := fun i => i.cs.toList
 k := 5
 pos := by decide
 len := fun _ => rfl
 one := fun x v hv => by simp [Itm.cs] at hv; rcases hv with rfl | rfl | rfl | rfl | rfl <;> rfl
theorem SlAt.itm {S : Nat -> Prop} {w : World} {p : Option Addr} {c : Nat} {l : List Itm} (h : SlAt encItm S w p c l) {i : Nat} {x : Itm} (hi : l[i]? = some x) :
 ∃ g off, p = some ⟨g, off, none⟩ ∧ S g ∧ g < w.heap.size ∧ w.cell? ⟨g, off + i * 5, none⟩ = some (.string x.p) ∧ w.cell? ⟨g, off + i * 5 + 1, none⟩ = some (.int .i64 x.kind) ∧
   w.cell? ⟨g, off + i * 5 + 2, none⟩ = some (.int .i64 x.mode) ∧ w.cell? ⟨g, off + i * 5 + 3, none⟩ = some (.string x.dat) ∧ w.cell? ⟨g, off + i * 5 + 4, none⟩ = some (.string x.same) := by
 obtain ⟨g, off, hp, hS, hg, hc⟩ := h.at hi
 rw [show encItm.k = 5 from rfl] at hc
 exact ⟨g, off, hp, hS, hg, by have := hc 0 _ rfl; simpa using this, by have := hc 1 _ rfl; rw [<- Nat.add_assoc] at this; exact this, by have := hc 2 _ rfl; rw [<- Nat.add_assoc] at this; exact this,
  by have := hc 3 _ rfl; rw [<- Nat.add_assoc] at this; exact this, by have := hc 4 _ rfl; rw [<- Nat.add_assoc] at this; exact this⟩
def ckGo (s : Ck) (k : Nat) : List Itm -> Int × Int
 | [] => (0, 0)
 | i :: l => if addE (shpE i) (upB i.p) s i ≠ 0 then (addE (shpE i) (upB i.p) s i, (k : Int)) else ckGo (s.put i) (k + 1) l
def ck0 : Ck := ⟨[], [], ⟨#[]⟩⟩
def ckE (l : List Itm) : Int × Int := if l.length = 0 then (12, 0) else if 4096 < l.length then (24, 0) else ckGo ck0 0 l
theorem add_any (s : Ck) (i : Itm) (hp : i.p.size <= 1000000) (c bk bf : Nat) (w : World) (hc : CkAt w c bk bf s) :
 Calls Tryz.prog 39 #[.pointer (some ⟨c, 0, none⟩), i.v] w fun e w' => AddTo w c bk bf s i (addE (shpE i) (upB i.p) s i) e w' := by
 refine add_walk s i c bk bf (shpE i) (upB i.p) w (fun w1 => shape_any i hp w1) (fun h w1 => ?_) hc
 have hpl : plainB i.p = true := by
  unfold shpE at h
  rcases e : plainB i.p with _ | _
  ·rw [e, if_pos rfl] at h
   exact absurd h (by decide)
  ·rfl
 exact (dir_any i.p hpl w1).mono fun e w' h => ⟨h.1, by rw [<- h.2]; exact Keeps.refl _ _⟩
theorem check_any (l : List Itm) (hl : ∀ i ∈ l, i.p.size <= 1000000) (w : World) {S : Nat -> Prop} {p : Option Addr} {cp : Nat} (hS : SlAt encItm S w p cp l) :
 Calls Tryz.prog 24 #[.slice p l.length cp] w fun e w' => e = .returned (.tuple #[.int .i64 (ckE l).1, .int .i64 (ckE l).2]) ∧ Keeps NoB w w' := by
 have hcap := hS.cap
 have hmax := hS.max
 unfold maxLen at hmax
 have HS := Lib.hid hS
 have HL := Lib.hid hl
 have HA := Lib.hid (fun (s : Ck) (i : Itm) (hp : i.p.size <= 1000000) (c bk bf : Nat) (w1 : World) (hc : CkAt w1 c bk bf s) => add_any s i hp c bk bf w1 hc)
 have HE : Hid (ckE l = if l.length = 0 then (12, 0) else if 4096 < l.length then (24, 0) else ckGo ck0 0 l) := Lib.hid rfl
 generalize ckE l = R at *
 clear hl hS
 by_cases h0 : l.length = 0
 ·have HE2 := Lib.hid (HE.out.trans (if_pos h0))
  go_enter Tryz.func24, Tryz.ntmps24
  go_wp2
  go_ret2
  rw [HE2.out]
  exact ⟨rfl, Keeps.refl _ _⟩
 ·have HE2 := Lib.hid (HE.out.trans (if_neg h0))
  have h0' : ¬ (l.length : Int) = 0 := by omega
  clear HE
  by_cases h9 : 4096 < l.length
  ·have HE3 := Lib.hid (HE2.out.trans (if_pos h9))
   have h9' : (4096 : Int) < (l.length : Int) := by omega
   go_enter Tryz.func24, Tryz.ntmps24
   go_wp2
   go_ret2
   rw [HE3.out]
   exact ⟨rfl, Keeps.refl _ _⟩
  ·have HE3 := Lib.hid (HE2.out.trans (if_neg h9))
   have h9' : ¬ (4096 : Int) < (l.length : Int) := by omega
   have hl2 : (l.length : Int) <= 4096 := by omega
   clear HE2 h0 h9
   have hmk1 : ∀ wx : World, (Instr.makeMap 79 none).run Tryz.prog wx = .ok (.map (some wx.heap.size)) (wx.alloc (.map #[] 0)) := fun _ => rfl
   have hmk2 : ∀ wx : World, (Instr.makeMap 80 none).run Tryz.prog wx = .ok (.map (some wx.heap.size)) (wx.alloc (.map #[] 0)) := fun _ => rfl
   have k1 : Keeps NoB w (w.alloc (.map #[] 0)) := (Keeps.refl _ _).alloc _
   have k2 : Keeps NoB (w.alloc (.map #[] 0)) ((w.alloc (.map #[] 0)).alloc (.map #[] 0)) := (Keeps.refl _ _).alloc _
   have k3 : Keeps NoB ((w.alloc (.map #[] 0)).alloc (.map #[] 0)) (((w.alloc (.map #[] 0)).alloc (.map #[] 0)).alloc (.cells #[.map (some w.heap.size), .map (some (w.heap.size + 1)), .string ⟨#[]⟩] 82)) := (Keeps.refl _ _).alloc _
   have hm1 := ((SMap.made w).keep k2 (fun h => h)).keep k3 (fun h => h)
   have hm2 := (SMap.made (w.alloc (.map #[] 0))).keep k3 (fun h => h)
   have hb3 := Bk.new (Keeps.refl NoB (((w.alloc (.map #[] 0)).alloc (.map #[] 0)).alloc (.cells #[.map (some w.heap.size), .map (some (w.heap.size + 1)), .string ⟨#[]⟩] 82)))
   rw [show (w.alloc (.map #[] 0)).heap.size = w.heap.size + 1 by simp] at hm2
   rw [show ((w.alloc (.map #[] 0)).alloc (.map #[] 0)).heap.size = w.heap.size + 1 + 1 by simp] at hb3
   have HCk : Hid (CkAt (((w.alloc (.map #[] 0)).alloc (.map #[] 0)).alloc (.cells #[.map (some w.heap.size), .map (some (w.heap.size + 1)), .string ⟨#[]⟩] 82)) (w.heap.size + 1 + 1) w.heap.size (w.heap.size + 1) ck0) :=
    Lib.hid ⟨hb3, hm1, hm2, by omega, by omega, by omega, by simp [ck0], by simp [ck0]⟩
   have HK0 := Lib.hid ((k1.trans k2).trans k3)
   clear k1 k2 k3 hm1 hm2 hb3
   go_enter Tryz.func24, Tryz.ntmps24
   go_upto_region 7 with fail
   clear hmk1 hmk2
   generalize (((w.alloc (.map #[] 0)).alloc (.map #[] 0)).alloc (.cells #[.map (some w.heap.size), .map (some (w.heap.size + 1)), .string ⟨#[]⟩] 82)) = w0 at *
   go_loopw [22] (fun i wr => ∃ (n : Nat) (s : Ck), n <= l.length ∧ i = .int .i64 n ∧ CkAt wr (w.heap.size + 1 + 1) w.heap.size (w.heap.size + 1) s ∧ Keeps NoB w wr ∧ Hid (R = ckGo s n (l.drop n))) (fun i _ => l.length + 1 - (intOf i).toNat)
   case atStart => exact ⟨0, ck0, Nat.zero_le _, rfl, HCk.out, HK0.out, HE3⟩
   case round =>
    rename World => wr
    obtain ⟨n, s, hn, rfl, hck, hkr, hR⟩ := hrel
    by_cases hlt : n < l.length
    ·obtain ⟨x, hx⟩ : ∃ x, l[n]? = some x := ⟨_, List.getElem?_eq_getElem hlt⟩
     obtain ⟨g, o, rfl, _, hgl, c0, c1, c2, c3, c4⟩ := HS.out.itm hx
     have hkc : ∀ (j : Nat) v, w.cell? ⟨g, j, none⟩ = some v -> wr.cell? ⟨g, j, none⟩ = some v := fun j v h => (hkr.cell (p := ⟨g, j, none⟩) hgl (fun h => h)).trans h
     have d0 := hkc _ _ c0
     have d1 := hkc _ _ c1
     have d2 := hkc _ _ c2
     have d3 := hkc _ _ c3
     have d4 := hkc _ _ c4
     have dl := lt_of_cell d0
     have hx6 := HL.out x (List.mem_of_getElem? hx)
     have hR2 := hR.out
     rw [List.drop_eq_getElem_cons hlt, show l[n] = x from Option.some.inj ((List.getElem?_eq_getElem hlt).symm.trans hx)] at hR2
     have hR3 : R = if addE (shpE x) (upB x.p) s x ≠ 0 then (addE (shpE x) (upB x.p) s x, (n : Int)) else ckGo (s.put x) (n + 1) (l.drop (n + 1)) := hR2
     have ka : Keeps NoB wr (wr.alloc (.cells x.cs 42)) := (Keeps.refl _ _).alloc _
     have hax := Lib.hid (HA.out s x hx6 _ _ _ _ (hck.on ka))
     have HKa := Lib.hid (hkr.trans ka)
     have HR3 := Lib.hid hR3
     clear hkc c0 c1 c2 c3 c4 hR hR2 hR3 hx ka hck hkr hx6 HE3
     generalize hE : addE (shpE x) (upB x.p) s x = E at *
     obtain ⟨xp, xk, xm, xd, xs⟩ := x
     simp only at d0 d1 d2 d3 d4
     have hax : Hid (Calls Tryz.prog 39 #[.pointer (some ⟨w.heap.size + 1 + 1, 0, none⟩), .agg #[.string xp, .int .i64 xk, .int .i64 xm, .string xd, .string xs]] (wr.alloc (.cells #[.string xp, .int .i64 xk, .int .i64 xm, .string xd, .string xs] 42)) fun e w' => AddTo (wr.alloc (.cells #[.string xp, .int .i64 xk, .int .i64 xm, .string xd, .string xs] 42)) (w.heap.size + 1 + 1) w.heap.size (w.heap.size + 1) s ⟨xp, xk, xm, xd, xs⟩ E e w') := hax
     by_cases hz : E = 0
     ·have HR4 := Lib.hid (HR3.out.trans (if_neg (by simpa using hz)))
      clear HR3
      subst hz
      go_wp2_with (go_at_call 39; go_loud (refine hax.out.mono ?_); rintro e w1 ⟨rfl, hc1, hk1⟩; have HC1 := Lib.hid (hc1 rfl); have HK1 := Lib.hid (HKa.out.step hk1 (fun g hg => .inr (by rcases hg with h | h | h <;> omega))); clear hc1 hk1)
      go_roundw
      case rel => exact ⟨n + 1, _, by omega, by go_num, HC1.out, HK1.out, HR4⟩
      case measure => (simp [intOf]) <;> omega
     ·have HR4 := Lib.hid (HR3.out.trans (if_pos (by simpa using hz)))
      clear HR3
      go_wp2_with (go_at_call 39; go_loud (refine hax.out.mono ?_); rintro e w1 ⟨rfl, hc1, hk1⟩; have HK1 := Lib.hid (HKa.out.step hk1 (fun g hg => .inr (by rcases hg with h | h | h <;> omega))); clear hc1 hk1)
      go_ret2
      rw [HR4.out]
      exact ⟨rfl, HK1.out⟩
    ·obtain rfl : n = l.length := by omega
     have hR2 := hR.out
     rw [List.drop_of_length_le (Nat.le_refl _)] at hR2
     have HR2 : Hid (R = (0, 0)) := Lib.hid hR2
     have HKr := Lib.hid hkr
     clear hR hR2 HE3 hck hkr
     go_wp2
     go_ret2
     rw [HR2.out]
     exact ⟨rfl, HKr.out⟩
end Go.Proofs.YtonkgdoaobojbaaGreatDoor
