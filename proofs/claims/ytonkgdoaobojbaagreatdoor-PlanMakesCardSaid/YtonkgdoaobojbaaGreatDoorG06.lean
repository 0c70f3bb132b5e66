/-
  Layer 10: contracts of the reference: Escape, Byte, Unescape.
-/
import Derived.Test.YtonkgdoaobojbaaGreatDoorG02
import Derived.Test.YtonkgdoaobojbaaGreatDoorG05
import Derived.Test.YtonkgdoaobojbaaGreatDoorG04
import Derived.Deep.Cut
import Derived.BigQuiet
import Derived.StillTailTactics
import Derived.Deep.QuietTactic
import Derived.Deep.CutRange

set_option linter.unusedSimpArgs false
set_option linter.unusedVariables false
set_option maxRecDepth 100000
set_option maxHeartbeats 4000000
namespace Go.Proofs.YtonkgdoaobojbaaGreatDoor
open Go Go.RowKit
theorem oct_fin2 : ∀ n : Fin 256, (48 + (n.val : Int) / 64) % 256 = ((48 + UInt8.ofNat n.val / 64).toNat : Int) ∧ (48 + (n.val : Int) / 8 % 8) = ((48 + UInt8.ofNat n.val / 8 % 8).toNat : Int) ∧ (48 + (n.val : Int) % 8) = ((48 + UInt8.ofNat n.val % 8).toNat : Int) := by decide +kernel
theorem oct_cells2 (c : UInt8) : (48 + (c.toNat : Int) / 64) % 256 = ((48 + c / 64).toNat : Int) ∧ (48 + (c.toNat : Int) / 8 % 8) = ((48 + c / 8 % 8).toNat : Int) ∧ (48 + (c.toNat : Int) % 8) = ((48 + c % 8).toNat : Int) := by
 have h := oct_fin2 ⟨c.toNat, c.toNat_lt⟩
 simp only [UInt8.ofNat_toNat] at h
 exact h
theorem r10Escape_any (s : ByteArray) (w : World) (hs : s.size <= 1000000000) :
 Calls Tryz.prog 49 #[.string s] w fun e w' => e = .returned (.string ⟨(escL s.data.toList).toArray⟩) ∧ Keeps NoB w w' := by
 have hl : s.data.toList.length = s.size := len_data s
 have HG := Lib.hid (fun (i : Nat) (h : i < s.size) => (show s.data.toList[i]? = some s[i] by rw [List.getElem?_eq_getElem (by rw [hl]; exact h)]; rfl))
 obtain ⟨l, hls⟩ : ∃ l, s.data.toList = l := ⟨_, rfl⟩
 rw [hls] at hl HG ⊢
 clear hls
 go_enter Tryz.func49, Tryz.ntmps49
 go_wp2
 go_loopw [3, 4] (fun v i wr => ∃ k : Nat, k <= l.length ∧ i = .int .i64 k ∧ Own encU8 5 (fun g => w.heap.size <= g) wr v (escL (l.take k)) ∧ Keeps NoB w wr) (fun _ i _ => l.length + 1 - (intOf i).toNat)
 case atStart => exact ⟨0, Nat.zero_le _, rfl, Own.nil _ _ _ _, Keeps.refl _ _⟩
 case round =>
  obtain ⟨k, hk, rfl, hown, hkp⟩ := hrel
  have HW := Lib.hid hown
  have HK := Lib.hid hkp
  have hsz := hkp.size
  clear hown hkp
  have hle := escL_le (l.take k)
  have hlt' : (l.take k).length <= k := List.length_take_le _ _
  by_cases hlt : k < l.length
  ·obtain ⟨c, hc⟩ : ∃ c, l[k]? = some c := ⟨_, List.getElem?_eq_getElem hlt⟩
   have hks : k < s.size := by omega
   have hsk : s[k] = c := by have := HG.out k hks; rw [hc] at this; exact (Option.some.inj this).symm
   have hnx := Lib.hid (take_next hc)
   clear hc
   go_upto_region 6 with fail
   go_cut [32] from 15 to 33 (fun x wx => x = .bool (!plnB (c.toNat : Int)) ∧ wr = wx)
   case first =>
    obtain ⟨b1, hb1⟩ : ∃ b, ((c.toNat : Int) == 37) = b := ⟨_, rfl⟩
    obtain ⟨b2, hb2⟩ : ∃ b, ((c.toNat : Int) == 92) = b := ⟨_, rfl⟩
    obtain ⟨b3, hb3⟩ : ∃ b, ((c.toNat : Int) == 39) = b := ⟨_, rfl⟩
    have HPn := Lib.hid (show plnB (c.toNat : Int) = (decide (32 <= (c.toNat : Int)) && decide ((c.toNat : Int) <= 126) && !b1 && !b2 && !b3) by rw [<- hb1, <- hb2, <- hb3]; unfold plnB; rfl)
    go_wp2_with fail
    all_goals
     go_meet
     refine ⟨?_, rfl⟩
     refine congrArg Value.bool ?_
     rw [HPn.out]
     first | (simp [*]; done) | (simp [*]; omega) | (rw [Bool.eq_iff_iff]; simp [*]; omega)
   case rest =>
   obtain ⟨rfl, rfl⟩ := hcut
   cases hp : plnB (c.toNat : Int) with
   | true =>
     have HE := Lib.hid (show escL (l.take (k + 1)) = escL (l.take k) ++ [c] by rw [hnx.out, escL_snoc]; unfold escC plnC; rw [if_pos hp])
     clear hp
     go_wp2_with (at_builtin; go_loud (refine wpl_append rfl (.tmp 46) (.tmp 48) rfl tU8 (HW.out.keep ((Keeps.refl NoB wr).alloc _) (fun _ _ h => h)) (own_lit (E := encU8) (e := 5) (w := wr) (S := fun _ => True) [c] #[.int .u8 (c.toNat : Int)] rfl 1 rfl trivial (by decide)).sl rfl rfl (by simp; omega) (by simp [maxLen]; omega) (by simp; omega) ?_))
     intro v' w2 ho2 hk2 hf2
     have HO := Lib.hid ho2
     have HK2 := Lib.hid ((HK.out.alloc _).step hk2 (fun g hg => .inr (HW.out.2 g hg)))
     clear ho2 hk2 hf2
     go_wp2_with fail
     go_roundw
     case rel => exact ⟨k + 1, by omega, by go_num, by rw [HE.out]; exact HO.out, HK2.out⟩
     case measure => simp [intOf]; omega
   | false =>
     obtain ⟨e1, e2, e3⟩ := oct_cells2 c
     have HE := Lib.hid (show escL (l.take (k + 1)) = escL (l.take k) ++ [92, 48 + c / 64, 48 + c / 8 % 8, 48 + c % 8] by rw [hnx.out, escL_snoc]; unfold escC plnC; rw [if_neg (by rw [hp]; simp)])
     have HL := Lib.hid (own_lit (E := encU8) (e := 5) (w := wr) (S := fun _ => True) [92, 48 + c / 64, 48 + c / 8 % 8, 48 + c % 8] #[.int .u8 92, .int .u8 ((48 + (c.toNat : Int) / 64) % 256), .int .u8 (48 + (c.toNat : Int) / 8 % 8), .int .u8 (48 + (c.toNat : Int) % 8)] (by rw [e1, e2, e3]; rfl) 4 rfl trivial (by decide)).sl
     clear hp e1 e2 e3
     go_wp2_with (at_builtin; go_loud (refine wpl_append rfl (.tmp 33) (.tmp 44) rfl tU8 (HW.out.keep ((Keeps.refl NoB wr).alloc _) (fun _ _ h => h)) HL.out rfl rfl (by simp; omega) (by simp [maxLen]; omega) (by simp; omega) ?_))
     intro v' w2 ho2 hk2 hf2
     have HO := Lib.hid ho2
     have HK2 := Lib.hid ((HK.out.alloc _).step hk2 (fun g hg => .inr (HW.out.2 g hg)))
     clear ho2 hk2 hf2
     go_wp2_with fail
     go_roundw
     case rel => exact ⟨k + 1, by omega, by go_num, by rw [HE.out]; exact HO.out, HK2.out⟩
     case measure => simp [intOf]; omega
  ·obtain rfl : k = l.length := by omega
   rw [List.take_length] at HW hle
   have hcv := own_str HW.out
   clear hle hlt'
   go_wp2_with fail
   go_ret
   exact ⟨rfl, HK.out⟩
set_option maxHeartbeats 8000000
theorem nan_word (s m : Nat) (hs : s < 2) (hm : m < 4503599627370495) : isNan (s * 9223372036854775808 + 9218868437227405312 + 1 + m) := by
 have e1 : Ieee.double.signWeight = 9223372036854775808 := by decide
 have e2 : Ieee.double.binade = 4503599627370496 := by decide
 have e3 : Ieee.double.infRung = 9218868437227405312 := by decide
 have e4 : Ieee.double.leastPlace = -1074 := by decide
 have h2 : (s * 9223372036854775808 + 9218868437227405312 + 1 + m) % 9223372036854775808 = 9218868437227405313 + m := by omega
 have h1 : (s * 9223372036854775808 + 9218868437227405312 + 1 + m) / 9223372036854775808 = s := by omega
 have n1 : ¬ 9218868437227405313 + m < 4503599627370496 := by omega
 have n2 : ¬ 9218868437227405313 + m < 9218868437227405312 := by omega
 have n3 : ¬ 9218868437227405313 + m = 9218868437227405312 := by omega
 unfold isNan Ieee.Format.read
 simp only [e1, e2, e3, e4, h1, h2, n1, n2, n3, if_false]
 exact ⟨_, _, rfl⟩
theorem nan_quo (w : World) : ∃ r, isNan r ∧ (Go.binOp .quo 59 (.float .f64 0) (.float .f64 0)).run Tryz.prog w = .ok (.float .f64 r) w.drew := by
 have h : FloatKind.f64.format.div 0 0 = none := by kernel_rfl
 refine ⟨_, nan_word ((w.tape w.drawn (.nanBits .f64 0 0)) % 2) ((w.tape w.drawn (.nanBits .f64 0 0)) / 2 % 4503599627370495) (Nat.mod_lt _ (by decide)) (Nat.mod_lt _ (by decide)), ?_⟩
 simp [Go.binOp, Op.floatArith, h, Question.forced, Question.cut]
def bytN (way : Int) (s : ByteArray) : Int :=
 if way = 1 then (if txB s = true then (s.size : Int) else -1) else if way = 2 then (uuSize s.size : Int) else if way = 3 then (if s.size <= 256 then ((escL s.data.toList).length : Int) else -1) else -2
theorem refBytes_any (way : Int) (s : ByteArray) (h1 : 1 <= s.size) (hs : s.size <= 1000000) (w : World) :
 Calls Tryz.prog 75 #[.int .i64 way, .string s] w fun e w' => e = .returned (.int .i64 (bytN way s)) ∧ Keeps NoB w w' := by
 have hl := len_data s
 by_cases hw1 : way = 1
 ·subst hw1
  have HT := Lib.hid (fun w1 : World => refText_any s hs h1 w1)
  have hc : bytN 1 s = if txB s = true then (s.size : Int) else -1 := rfl
  rw [hc]
  generalize txB s = b at *
  clear hc hs h1 hl
  cases b
  all_goals
   go_enter Tryz.func75, Tryz.ntmps75
   go_wp2_with (go_at_call 45; go_loud (refine (HT.out _).mono ?_); rintro e w2 ⟨rfl, rfl⟩)
   go_ret
   exact ⟨rfl, Keeps.refl _ _⟩
 ·have b1 : (way == 1) = false := by simpa using hw1
  by_cases hw2 : way = 2
  ·subst hw2
   have hR := fun w1 : World => refRest_any s hs w1
   have hc : bytN 2 s = (uuSize s.size : Int) := rfl
   rw [hc]
   have hz : (⟨(uuRest s.data.toList).toArray⟩ : ByteArray).size = uuSize s.size := by
    show (uuRest s.data.toList).toArray.size = _
    rw [List.size_toArray, uuRest_len, hl]
   generalize (⟨(uuRest s.data.toList).toArray⟩ : ByteArray) = t at *
   rw [<- hz]
   have HR := Lib.hid hR
   clear hc hs h1 hl hw1 hz hR
   go_enter Tryz.func75, Tryz.ntmps75
   go_wp2_with (go_at_call 78; go_loud (refine (HR.out _).mono ?_); rintro e w2 ⟨rfl, hk2⟩)
   go_ret
   exact ⟨rfl, hk2⟩
  ·have b2 : (way == 2) = false := by simpa using hw2
   by_cases hw3 : way = 3
   ·subst hw3
    have hc : bytN 3 s = if s.size <= 256 then ((escL s.data.toList).length : Int) else -1 := rfl
    rw [hc]
    by_cases h256 : s.size <= 256
    ·rw [if_pos h256]
     have hE := fun w1 : World => r10Escape_any s w1 (by omega)
     have hz : (⟨(escL s.data.toList).toArray⟩ : ByteArray).size = (escL s.data.toList).length := by
      show (escL s.data.toList).toArray.size = _
      rw [List.size_toArray]
     generalize (⟨(escL s.data.toList).toArray⟩ : ByteArray) = t at *
     rw [<- hz]
     have HE := Lib.hid hE
     have h6 : decide ((s.size : Int) <= 256) = true := decide_eq_true (by omega)
     clear hc hs h1 hl hw1 hw2 hz hE h256
     go_enter Tryz.func75, Tryz.ntmps75
     go_wp2_with (go_at_call 49; go_loud (refine (HE.out _).mono ?_); rintro e w2 ⟨rfl, hk2⟩)
     go_ret
     exact ⟨rfl, hk2⟩
    ·rw [if_neg h256]
     have h6 : decide ((s.size : Int) <= 256) = false := decide_eq_false (by omega)
     clear hc hs h1 hl hw1 hw2 h256
     go_enter Tryz.func75, Tryz.ntmps75
     go_wp2
     go_ret
     exact ⟨rfl, Keeps.refl _ _⟩
   ·have b3 : (way == 3) = false := by simpa using hw3
    have hc : bytN way s = -2 := by unfold bytN; rw [if_neg hw1, if_neg hw2, if_neg hw3]
    rw [hc]
    clear hc hs h1 hl hw1 hw2 hw3
    go_enter Tryz.func75, Tryz.ntmps75
    go_wp2
    go_ret
    exact ⟨rfl, Keeps.refl _ _⟩
theorem refShare_ex (a b : Nat) (ha1 : 1 <= a) (ha2 : a < 4503599627370496) (hb1 : 1 <= b) (hb2 : b < 4503599627370496) (w : World) :
 Calls Tryz.prog 22 #[.int .i64 (a : Int), .int .i64 (b : Int)] w fun e w' => e = .returned (.float .f64 (quoW a b)) ∧ w = w' := by
 have hq := fun wx => run_float_arith (P := Tryz.prog) wx .quo 59 .f64 _ _ _ (quo_lt a b ha1 ha2 hb1 hb2).2
 generalize quoW a b = r at *
 have q1 : (Tryz.prog.underlying 3).isSome = true := by kernel_rfl
 have q2 : Tryz.prog.underlying 59 = some (.float .f64) := by kernel_rfl
 clear ha1 ha2 hb1 hb2
 go_enter Tryz.func22, Tryz.ntmps22
 go_wp2
 go_ret
 exact ⟨rfl, rfl⟩
def CostTo (way : Int) (s : ByteArray) (w : World) (e : Ending) (w' : World) : Prop := ∃ r, e = .returned (.float .f64 r) ∧ (okN r ∧ nrmW r = costW way s) ∧ Keeps NoB w w'
theorem costTo_w {way : Int} {s : ByteArray} {w : World} {e : Ending} {w' : World} {r : Nat} (he : e = .returned (.float .f64 r)) (hr : r = costW way s) (h : r <= 9218868437227405312) (k : Keeps NoB w w') : CostTo way s w e w' :=
 ⟨r, he, ⟨.inl h, by rw [nrm_le h, hr]⟩, k⟩
theorem refCost_any (way : Int) (s : ByteArray) (h1 : 1 <= s.size) (hs : s.size <= 1000000) (w : World) :
 Calls Tryz.prog 46 #[.int .i64 way, .string s] w fun e w' => CostTo way s w e w' := by
 have hl := len_data s
 have HB := Lib.hid (fun w1 : World => refBytes_any way s h1 hs w1)
 have hok := cost_okW way s h1 hs
 have hkind : (bytN way s = -2 ∧ costW way s = nanW) ∨ (bytN way s = -1 ∧ costW way s = 9218868437227405312) ∨ (∃ a : Nat, bytN way s = (a : Int) ∧ costW way s = quoW a s.size ∧ 1 <= a ∧ a <= 4000000) := by
  have he := escL_pos (l := s.data.toList) (by omega)
  have he2 := escL_four s.data.toList
  have hu := uuSize_le s.size
  have hu1 := uuSize_pos s.size
  unfold bytN costW
  by_cases w1 : way = 1
  ·rw [if_pos w1, if_pos w1]
   by_cases ht : txB s = true
   ·rw [if_pos ht, if_pos ht]; exact .inr (.inr ⟨s.size, rfl, rfl, h1, by omega⟩)
   ·rw [if_neg ht, if_neg ht]; exact .inr (.inl ⟨rfl, rfl⟩)
  ·rw [if_neg w1, if_neg w1]
   by_cases w2 : way = 2
   ·rw [if_pos w2, if_pos w2]; exact .inr (.inr ⟨uuSize s.size, rfl, rfl, hu1, by omega⟩)
   ·rw [if_neg w2, if_neg w2]
    by_cases w3 : way = 3
    ·rw [if_pos w3, if_pos w3]
     by_cases h6 : s.size <= 256
     ·rw [if_pos h6, if_pos h6]; exact .inr (.inr ⟨_, rfl, rfl, he, by omega⟩)
     ·rw [if_neg h6, if_neg h6]; exact .inr (.inl ⟨rfl, rfl⟩)
    ·rw [if_neg w3, if_neg w3]; exact .inl ⟨rfl, rfl⟩
 have q2 : Tryz.prog.underlying 59 = some (.float .f64) := by kernel_rfl
 rcases hkind with ⟨hb, hc⟩ | ⟨hb, hc⟩ | ⟨a, hb, hc, ha1, ha2⟩
 ·rw [hb] at HB
  have HC := Lib.hid hc
  clear hb hc hok hl h1 hs
  go_enter Tryz.func46, Tryz.ntmps46
  go_upto_region 4 with (go_at_call 75; go_loud (refine (HB.out _).mono ?_); rintro e w2 ⟨rfl, hk2⟩)
  obtain ⟨r, hr, hq⟩ := nan_quo w2
  have HR := Lib.hid hr
  clear hr
  go_wp2
  go_ret
  exact ⟨r, rfl, ⟨.inr HR.out, by rw [nrm_nan HR.out, HC.out]⟩, hk2.drew⟩
 ·rw [hb] at HB
  have HC := Lib.hid hc
  have hq := fun wx => run_float_arith (P := Tryz.prog) wx .quo 59 .f64 4607182418800017408 0 9218868437227405312 (by kernel_rfl)
  clear hb hc hok hl h1 hs
  go_enter Tryz.func46, Tryz.ntmps46
  go_wp2_with (go_at_call 75; go_loud (refine (HB.out _).mono ?_); rintro e w2 ⟨rfl, hk2⟩)
  go_ret
  exact costTo_w rfl HC.out.symm (by decide) hk2
 ·rw [hb] at HB
  have HS := Lib.hid (fun w1 : World => refShare_ex a s.size ha1 (by omega) h1 (by omega) w1)
  have HC := Lib.hid hc
  have HQ := Lib.hid (quo_lt a s.size ha1 (by omega) h1 (by omega)).1
  have e1 : ((a : Int) == -2) = false := by rw [beq_eq_false_iff_ne]; omega
  have e2 : ((a : Int) == -1) = false := by rw [beq_eq_false_iff_ne]; omega
  clear hb hc hok hl h1 hs ha1 ha2
  generalize quoW a s.size = r at *
  go_enter Tryz.func46, Tryz.ntmps46
  go_wp2_with (first | (go_at_call 75; go_loud (refine (HB.out _).mono ?_); rintro e w2 ⟨rfl, hk2⟩) | (go_at_call 22; go_loud (refine (HS.out _).mono ?_); rintro e w3 ⟨rfl, rfl⟩))
  go_ret
  exact costTo_w rfl HC.out.symm (Nat.le_of_lt HQ.out) hk2
theorem cls_fin {x : Nat} (h : okN x) : (nrmW x < 9218868437227405312 ∧ decide ((5 : Int) <= clsW x) = false) ∨ (¬ nrmW x < 9218868437227405312 ∧ decide ((5 : Int) <= clsW x) = true) := by
 rcases h with h | h
 ·rw [nrm_le h]
  unfold clsW
  rw [if_pos h]
  by_cases hi : x = 9218868437227405312
  ·rw [if_pos hi]; exact .inr ⟨by omega, by decide⟩
  ·rw [if_neg hi]
   refine .inl ⟨by omega, ?_⟩
   split <;> decide
 ·rw [nrm_nan h]
  unfold clsW
  rw [if_neg (nan_big h)]
  exact .inr ⟨by decide, by decide⟩
theorem refBest_any (s : ByteArray) (h1 : 1 <= s.size) (hs : s.size <= 1000000) (ws : List Int) (hw1 : 1 <= ws.length) (hw2 : ws.length <= 1000) (w : World) {S : Nat -> Prop} {p : Option Addr} {c : Nat} (hS : SlAt encInt S w p c ws) :
 Calls Tryz.prog 30 #[.string s, .slice p ws.length c] w fun e w' => e = .returned (.tuple #[.int .i64 (bestP ws s).1, .int .i64 (bestP ws s).2]) ∧ Keeps NoB w w' := by
 obtain ⟨cs, hcs⟩ : ∃ cs, ws.map (fun x => costW x s) = cs := ⟨_, rfl⟩
 have hcl : cs.length = ws.length := by rw [<- hcs, List.length_map]
 have HC := Lib.hid (fun (y : Int) (w1 : World) => refCost_any y s h1 hs w1)
 have hcp := hS.cap
 have hmx := hS.max
 unfold maxLen at hmx
 have HS := Lib.hid hS
 have hne : s.toList.isEmpty = false := by rw [empty_size, decide_eq_false (by omega)]
 have hat : ∀ (k : Nat) y, ws[k]? = some y -> cs[k]? = some (costW y s) := fun k y hy => by rw [<- hcs, List.getElem?_map, hy]; rfl
 have HAt := Lib.hid hat
 have HB : Hid (bestP ws s = match leastK cs cs.length with | none => (0, 12) | some b => if cs.getD b 0 < 9218868437227405312 then (ws.getD b 0, 0) else (0, 43)) := Lib.hid (by unfold bestP; rw [hcs, hcl]; first | done | rfl)
 have HCl : Hid (cs.length = ws.length) := Lib.hid hcl
 have hz0 : ((ws.length : Int) == 0) = false := by rw [beq_eq_false_iff_ne]; omega
 generalize hBd : bestP ws s = B at *
 clear hcs hat hS hBd hcl
 go_enter Tryz.func30, Tryz.ntmps30
 go_upto_region 5 with fail
 go_loopw [6, 7] (fun v i wr => ∃ (k : Nat) (rs : List Nat), k <= ws.length ∧ i = .int .i64 k ∧ Own encFl 59 (fun g => w.heap.size <= g) wr v rs ∧ Keeps NoB w wr ∧ Hid (rs.map nrmW = cs.take k ∧ ∀ (j : Nat) x, rs[j]? = some x -> okN x)) (fun _ i _ => ws.length + 1 - (intOf i).toNat)
 case atStart => exact ⟨0, [], Nat.zero_le _, rfl, Own.nil _ _ _ _, Keeps.refl _ _, Lib.hid ⟨rfl, fun j x h => by simp at h⟩⟩
 case round =>
  rename World => wr
  obtain ⟨k, rs, hk, rfl, hown, hkr, hI⟩ := hrel
  by_cases hlt : k < ws.length
  ·obtain ⟨y, hy⟩ : ∃ y, ws[k]? = some y := ⟨_, List.getElem?_eq_getElem hlt⟩
   have hcy := HAt.out k y hy
   obtain ⟨g, o, rfl, _, hgl, c0⟩ := HS.out.num hy
   have a0 : wr.cell? ⟨g, o + k, none⟩ = some (.int .i64 y) := (hkr.cell (p := ⟨g, o + k, none⟩) hgl (fun h => h)).trans c0
   have HCy := Lib.hid (HC.out y)
   have HOwn := Lib.hid hown
   have HKr := Lib.hid hkr
   have HT : Hid (cs.take k ++ [costW y s] = cs.take (k + 1)) := Lib.hid (by rw [List.take_add_one, hcy]; rfl)
   have HLen : Hid (rs.length <= 1000) := Lib.hid (by
    have h2 := congrArg List.length hI.out.1
    rw [List.length_map, List.length_take] at h2
    omega)
   have hki : (k : Int) < (ws.length : Int) := by omega
   clear hy hcy c0 hown hkr
   unfold CostTo at HCy
   generalize costW y s = cy at *
   go_wp2_with (first
    | (go_at_call 46; go_loud (refine (HCy.out _).mono ?_); rintro e w1 ⟨r, rfl, hr, hk1⟩; have HRr := Lib.hid hr; clear hr; have ho1 := Lib.hid (HOwn.out.keep hk1 (fun _ _ h => h)); have HK1 := Lib.hid (HKr.out.trans hk1); have HLit := Lib.hid (own_lit (E := encFl) (e := 59) (w := w1) (S := fun _ => True) [r] #[.float .f64 r] rfl 1 rfl trivial (by decide)); clear hk1)
    | (at_builtin; go_loud (refine wpl_append rfl (.tmp 18) (.tmp 25) rfl tF64 (ho1.out.keep (F := NoB) ((Keeps.refl _ _).alloc _) (fun _ _ h => h)) HLit.out.sl rfl rfl (by have := HK1.out.size; simp; omega) (by have := HLen.out; simp [maxLen]; omega) (by have := HLen.out; simp; omega) ?_)))
   intro v' w4 ho4 hk4 hf4
   have HI4 : Hid ((rs ++ [r]).map nrmW = cs.take (k + 1) ∧ ∀ (j : Nat) x, (rs ++ [r])[j]? = some x -> okN x) := Lib.hid (by
    refine ⟨by rw [List.map_append, hI.out.1, <- HT.out, <- HRr.out.2]; rfl, fun j x hx => ?_⟩
    rw [List.getElem?_append] at hx
    split at hx
    ·exact hI.out.2 j x hx
    ·have hm := List.mem_of_getElem? hx
     obtain rfl := List.mem_singleton.1 hm
     exact HRr.out.1)
   go_wp2_with fail
   go_roundw
   case rel => exact ⟨k + 1, _, by omega, by go_num, ho4, (HK1.out.alloc _).step hk4 (fun g hg => .inr (by have h1 := ho1.out.2 g hg; exact h1)), HI4⟩
   case measure => (simp [intOf]) <;> omega
  ·obtain rfl : k = ws.length := by omega
   have hI1 := hI.out.1
   rw [<- HCl.out, List.take_length] at hI1
   have hrl : rs.length = ws.length := by rw [<- HCl.out, <- hI1, List.length_map]
   obtain ⟨gb, cap, cur, rfl, _, hcb, hc1, hc2, _, _⟩ := hown.row (show 0 < rs.length by omega)
   have hatc := hown.at
   have hLe := refLeast_any rs wr hatc hI.out.2
   rw [hI1] at hLe
   obtain ⟨b, hb⟩ := leastK_some cs cs.length (by rw [HCl.out]; omega)
   have hbl := leastK_lt cs cs.length b hb
   rw [show leastK cs rs.length = some b by rw [hrl, <- HCl.out]; exact hb, show leastI (some b) = (b : Int) from rfl] at hLe
   obtain ⟨x, hx⟩ : ∃ x, rs[b]? = some x := ⟨_, List.getElem?_eq_getElem (by rw [hrl, <- HCl.out]; exact hbl)⟩
   have hcb2 : cs.getD b 0 = nrmW x := by rw [<- hI1]; simp [List.getD, hx]
   obtain ⟨g', off, he, _, hg', hcc⟩ := hatc.fl hx
   cases he
   rw [Nat.zero_add] at hcc
   have fl := lt_of_cell hcc
   obtain ⟨y, hy⟩ : ∃ y, ws[b]? = some y := ⟨_, List.getElem?_eq_getElem (by rw [<- HCl.out]; exact hbl)⟩
   have hyd : ws.getD b 0 = y := by simp [List.getD, hy]
   obtain ⟨g, o, rfl, _, hgl, c0⟩ := HS.out.num hy
   have a0 : wr.cell? ⟨g, o + b, none⟩ = some (.int .i64 y) := (hkr.cell (p := ⟨g, o + b, none⟩) hgl (fun h => h)).trans c0
   have al := lt_of_cell a0
   have hxo := hI.out.2 b x hx
   have HCx := Lib.hid (fun w1 : World => class_any x hxo w1)
   have HB2 := HB.out
   rw [hb] at HB2
   simp only [hcb2, hyd] at HB2
   have HB3 := Lib.hid HB2
   have HLe := Lib.hid hLe
   have HKr := Lib.hid hkr
   have hbi : (b : Int) < (rs.length : Int) := by rw [hrl, <- HCl.out]; omega
   have hbw : (b : Int) < (ws.length : Int) := by rw [<- HCl.out]; omega
   have HF : Hid ((nrmW x < 9218868437227405312 ∧ decide ((5 : Int) <= clsW x) = false) ∨ (¬ nrmW x < 9218868437227405312 ∧ decide ((5 : Int) <= clsW x) = true)) := cls_fin hxo
   unfold maxLen at hc2
   have HA0 := Lib.hid a0
   have HC0 := Lib.hid hcc
   clear hown hkr hatc hcb hb hx hcb2 hy hyd c0 HB2 HC HAt HB hI hI1 hxo hLe hrl
   generalize clsW x = cx at *
   go_upto_region 9 with (go_at_call 47; go_loud (refine HLe.out.mono ?_); rintro e w5 ⟨rfl, hk5⟩)
   have a5 := (hk5.cell (p := ⟨g, o + b, none⟩) al (fun h => h)).trans HA0.out
   have f5 := (hk5.cell (p := ⟨gb, b, none⟩) fl (fun h => h)).trans HC0.out
   have HK5 := Lib.hid (HKr.out.trans hk5)
   have al5 := lt_of_cell a5
   have fl5 := lt_of_cell f5
   clear a0 hcc hk5 al fl
   rcases HF.out with ⟨hf1, hf2⟩ | ⟨hf1, hf2⟩
   ·have HB4 : Hid (B = (y, 0)) := Lib.hid (HB3.out.trans (by rw [if_pos hf1]))
    clear hf1
    go_wp2_with (go_at_call 37; go_loud (refine (HCx.out _).mono ?_); rintro e w6 ⟨rfl, rfl⟩)
    go_ret2
    rw [HB4.out]
    exact ⟨rfl, HK5.out⟩
   ·have HB4 : Hid (B = (0, 43)) := Lib.hid (HB3.out.trans (by rw [if_neg hf1]))
    clear hf1
    go_wp2_with (go_at_call 37; go_loud (refine (HCx.out _).mono ?_); rintro e w6 ⟨rfl, rfl⟩)
    go_ret2
    rw [HB4.out]
    exact ⟨rfl, HK5.out⟩
end Go.Proofs.YtonkgdoaobojbaaGreatDoor
set_option maxHeartbeats 4000000
namespace Go.Proofs.YtonkgdoaobojbaaGreatDoor
def upR (s : ByteArray) : ByteArray := if lastI s 47 s.size < 0 then ⟨#[]⟩ else s.extract 0 (lastI s 47 s.size).toNat
def fndI (pre : List Itm) (s : ByteArray) : Option Itm := pre.find? (fun y => decide (y.p = s))
def refAdd (pre : List Itm) (x : Itm) : Int :=
 if shpE x ≠ 0 then shpE x
 else if (match pre.getLast? with | some y => bLt y.p x.p | none => true) = false then 13
 else if upR x.p ≠ ⟨#[]⟩ ∧ (match fndI pre (upR x.p) with | none => true | some y => decide (y.kind ≠ 2)) = true then 14
 else if x.same ≠ ⟨#[]⟩ ∧ (match fndI pre x.same with | none => true | some y => decide (y.kind ≠ 1 ∨ y.same ≠ ⟨#[]⟩ ∨ y.mode ≠ x.mode ∨ x.dat ≠ ⟨#[]⟩)) = true then 22
 else 0
def refGo (pre : List Itm) (k : Nat) : List Itm -> Int × Int
 | [] => (0, 0)
 | x :: r => if refAdd pre x ≠ 0 then (refAdd pre x, (k : Int)) else refGo (pre ++ [x]) (k + 1) r
def ckSt (pre : List Itm) : Ck := pre.foldl Ck.put ck0
theorem ckSt_snoc (pre : List Itm) (x : Itm) : ckSt (pre ++ [x]) = (ckSt pre).put x := by
 unfold ckSt
 rw [List.foldl_append]
 rfl
def ownB (x : Itm) : Bool := decide (x.same = ⟨#[]⟩ ∧ x.kind = 1)
structure CkIs (pre : List Itm) : Prop where
 ks : (ckSt pre).ks = pre.map fun y => (y.p, y.kind)
 fs : (ckSt pre).fs = (pre.filter ownB).map fun y => (y.p, y)
 last : (ckSt pre).last = match pre.getLast? with | some y => y.p | none => ⟨#[]⟩
theorem ckIs_n : ∀ (n : Nat) (pre : List Itm), pre.length = n -> CkIs pre
 | 0, pre, hn => by
   obtain rfl := List.eq_nil_of_length_eq_zero hn
   exact ⟨rfl, rfl, rfl⟩
 | n + 1, pre', hn => by
   rcases List.eq_nil_or_concat pre' with rfl | ⟨pre, x, rfl⟩
   ·cases hn
   have ih := ckIs_n n pre (by simpa using hn)
   simp only [List.concat_eq_append] at *
   refine ⟨?_, ?_, ?_⟩
   ·rw [ckSt_snoc, List.map_append, <- ih.ks]; rfl
   ·rw [ckSt_snoc, List.filter_append, List.map_append, <- ih.fs]
    show (if x.same = ⟨#[]⟩ ∧ x.kind = 1 then (ckSt pre).fs ++ [(x.p, x)] else (ckSt pre).fs) = _
    by_cases h : x.same = ⟨#[]⟩ ∧ x.kind = 1
    ·rw [if_pos h, List.filter_cons_of_pos (by unfold ownB; exact decide_eq_true h)]; rfl
    ·rw [if_neg h, List.filter_cons_of_neg (by unfold ownB; simpa using h)]; simp
   ·rw [ckSt_snoc, List.getLast?_concat]; rfl
theorem ckIs (pre : List Itm) : CkIs pre := ckIs_n _ pre rfl
def Rise (pre : List Itm) : Prop := pre.Pairwise fun a b => bLt a.p b.p = true
theorem rise_snoc {pre : List Itm} {x : Itm} (h : Rise pre) (hl : (match pre.getLast? with | some y => bLt y.p x.p | none => true) = true) : Rise (pre ++ [x]) := by
 refine List.pairwise_append.2 ⟨h, List.pairwise_singleton _ _, fun a ha b hb => ?_⟩
 obtain rfl := List.mem_singleton.1 hb
 rcases hg : pre.getLast? with _ | y
 ·rw [List.getLast?_eq_none_iff] at hg; subst hg; cases ha
 ·rw [hg] at hl
  obtain ⟨q, rfl⟩ : ∃ q, pre = q ++ [y] := by
   obtain ⟨q, hq⟩ := List.getLast?_eq_some_iff.1 hg
   exact ⟨q, hq⟩
  rcases List.mem_append.1 ha with h1 | h1
  ·exact bLt_trans ((List.pairwise_append.1 h).2.2 a h1 y (List.mem_singleton.2 rfl)) hl
  ·obtain rfl := List.mem_singleton.1 h1; exact hl
theorem rise_inj {pre : List Itm} (h : Rise pre) : ∀ a ∈ pre, ∀ b ∈ pre, a.p = b.p -> a = b := by
 induction pre with
 | nil => intro a ha; cases ha
 | cons c l ih =>
   intro a ha b hb e
   have h1 := List.pairwise_cons.1 h
   rcases List.mem_cons.1 ha with ea | ha2
   ·rcases List.mem_cons.1 hb with eb | hb2
    ·rw [ea, eb]
    ·have := h1.1 b hb2
     rw [<- ea, e, bLt_irrefl] at this; cases this
   ·rcases List.mem_cons.1 hb with eb | hb2
    ·have := h1.1 a ha2
     rw [<- eb, e, bLt_irrefl] at this; cases this
    ·exact ih h1.2 a ha2 b hb2 e
theorem fnd_kind (pre : List Itm) (u : ByteArray) : (ckSt pre).kind u = match fndI pre u with | some y => y.kind | none => 0 := by
 unfold Ck.kind fndI
 rw [(ckIs pre).ks, List.find?_map, show ((fun x : ByteArray × Int => decide (x.1 = u)) ∘ fun y : Itm => (y.p, y.kind)) = fun y => decide (y.p = u) from rfl]
 cases pre.find? (fun y => decide (y.p = u)) <;> rfl
theorem fnd_item {pre : List Itm} (h : Rise pre) (u : ByteArray) : (ckSt pre).item u = match fndI pre u with | some y => if y.same = ⟨#[]⟩ ∧ y.kind = 1 then some y else none | none => none := by
 unfold Ck.item fndI
 rw [(ckIs pre).fs, List.find?_map, Option.map_map, show ((fun x : ByteArray × Itm => decide (x.1 = u)) ∘ fun y : Itm => (y.p, y)) = fun y => decide (y.p = u) from rfl, show ((fun x : ByteArray × Itm => x.2) ∘ fun y : Itm => (y.p, y)) = id from rfl, Option.map_id, id]
 rcases hf : pre.find? (fun y => decide (y.p = u)) with _ | y
 ·rw [hf]
  exact List.find?_eq_none.2 fun z hz => List.find?_eq_none.1 hf z (List.mem_filter.1 hz).1
 ·rw [hf]
  have hy := List.mem_of_find?_eq_some hf
  have hyp : y.p = u := by simpa using List.find?_some hf
  show _ = if y.same = ⟨#[]⟩ ∧ y.kind = 1 then some y else none
  by_cases ho : y.same = ⟨#[]⟩ ∧ y.kind = 1
  ·rw [if_pos ho]
   rcases hg : (pre.filter ownB).find? (fun y => decide (y.p = u)) with _ | z
   ·exact absurd hyp (by simpa using List.find?_eq_none.1 hg y (List.mem_filter.2 ⟨hy, by unfold ownB; exact decide_eq_true ho⟩))
   ·have hz := (List.mem_filter.1 (List.mem_of_find?_eq_some hg)).1
    have hzp : z.p = u := by simpa using List.find?_some hg
    rw [hg, rise_inj h z hz y hy (hzp.trans hyp.symm)]
  ·rw [if_neg ho, List.find?_eq_none]
   intro z hz hzp
   have hm := List.mem_filter.1 hz
   have e : z = y := rise_inj h z hm.1 y hy ((by simpa using hzp : z.p = u).trans hyp.symm)
   subst e
   have h2 := hm.2
   unfold ownB at h2
   exact ho (of_decide_eq_true h2)
theorem upB_dot {s : ByteArray} (h : plainB s = true) : (upB s = ⟨#[46]⟩ ↔ upR s = ⟨#[]⟩) ∧ (upR s ≠ ⟨#[]⟩ -> upB s = upR s) := by
 unfold upB upR
 by_cases hn : lastI s 47 s.size < 0
 ·rw [if_pos hn, if_pos hn]; simp
 ·rw [if_neg hn, if_neg hn]
  obtain ⟨i, hi⟩ : ∃ i : Nat, lastI s 47 s.size = i := ⟨(lastI s 47 s.size).toNat, by omega⟩
  have hat := lastI_at s 47 s.size i hi
  have hps := plain_slash h i hat
  rw [hi]
  show (s.extract 0 i = ⟨#[46]⟩ ↔ s.extract 0 i = ⟨#[]⟩) ∧ _
  have hz : (s.extract 0 i).size = i := by rw [ByteArray.size_extract]; omega
  have h1 : s.extract 0 i ≠ ⟨#[]⟩ := fun e => by
   rw [e] at hz
   have h5 : 0 = i := hz
   omega
  have h2 : s.extract 0 i ≠ ⟨#[46]⟩ := fun e => by
   have hz2 : 1 = i := by rw [e] at hz; exact hz
   subst hz2
   have h0 : s.data.toList[0]? = some 46 := by
    rw [<- sub_at s 1 0 (by omega), e]; rfl
   unfold plainB at h
   simp only [Bool.and_eq_true] at h
   have h3 : ∃ t, s.data.toList = 46 :: 47 :: t := by
    rcases hl : s.data.toList with _ | ⟨a, _ | ⟨b, t⟩⟩
    ·rw [hl] at h0; simp at h0
    ·rw [hl] at hat; simp at hat
    ·rw [hl] at h0 hat
     simp at h0 hat
     exact ⟨t, by rw [h0, hat]⟩
   obtain ⟨t, ht⟩ := h3
   have h4 : ofL [46] ∈ pcs s := by
    unfold pcs
    rw [ht, show (46 :: 47 :: t : List UInt8) = [46] ++ 47 :: t from rfl, pcsL_cut [46] t (by simp)]
    simp
   exact absurd (List.all_eq_true.1 h.2 _ h4) (by decide)
  exact ⟨⟨fun e => absurd e h2, fun e => absurd e h1⟩, fun _ => rfl⟩
theorem add_ref {pre : List Itm} (h : Rise pre) (x : Itm) : addE (shpE x) (upB x.p) (ckSt pre) x = refAdd pre x := by
 unfold addE refAdd
 by_cases hs : shpE x ≠ 0
 ·rw [if_pos hs, if_pos hs]
 ·rw [if_neg hs, if_neg hs]
  have hpl : plainB x.p = true := by
   have h0 : shpE x = 0 := by simpa using hs
   unfold shpE at h0
   rcases e : plainB x.p with _ | _
   ·rw [e, if_pos rfl] at h0; exact absurd h0 (by decide)
   ·rfl
  have hlast : bLt (ckSt pre).last x.p = (match pre.getLast? with | some y => bLt y.p x.p | none => true) := by
   rw [(ckIs pre).last]
   cases pre.getLast? with
   | some y => rfl
   | none =>
     have h1 := (plain_pcs hpl).2.1
     show bLt ⟨#[]⟩ x.p = true
     unfold bLt
     rw [decide_eq_true_iff]
     rcases e : x.p.data.toList with _ | ⟨a, l⟩
     ·have := len_data x.p; rw [e] at this; simp at this; omega
     ·exact List.nil_lt_cons _ _
  rw [hlast]
  by_cases hl : (match pre.getLast? with | some y => bLt y.p x.p | none => true) = false
  ·rw [if_pos hl, if_pos hl]
  ·rw [if_neg hl, if_neg hl]
   obtain ⟨u1, u2⟩ := upB_dot hpl
   have hu : (upB x.p ≠ ⟨#[46]⟩ ∧ (ckSt pre).kind (upB x.p) ≠ 2) ↔ (upR x.p ≠ ⟨#[]⟩ ∧ (match fndI pre (upR x.p) with | none => true | some y => decide (y.kind ≠ 2)) = true) := by
    have hk : ∀ hne : upR x.p ≠ ⟨#[]⟩, ((ckSt pre).kind (upB x.p) ≠ 2 ↔ (match fndI pre (upR x.p) with | none => true | some y => decide (y.kind ≠ 2)) = true) := fun hne => by
     rw [u2 hne, fnd_kind]
     cases fndI pre (upR x.p) with
     | none => simp
     | some y => simp
    exact ⟨fun e => ⟨fun h2 => e.1 (u1.2 h2), (hk (fun h2 => e.1 (u1.2 h2))).1 e.2⟩, fun e => ⟨fun h2 => e.1 (u1.1 h2), (hk e.1).2 e.2⟩⟩
   by_cases hc : upR x.p ≠ ⟨#[]⟩ ∧ (match fndI pre (upR x.p) with | none => true | some y => decide (y.kind ≠ 2)) = true
   ·rw [if_pos hc, if_pos (hu.2 hc)]
   ·rw [if_neg hc, if_neg (fun e => hc (hu.1 e)), fnd_item h]
    by_cases hsm : x.same = ⟨#[]⟩
    ·rw [if_neg (by simp [hsm]), if_neg (by simp [hsm])]
    ·rw [if_pos hsm]
     rcases hf : fndI pre x.same with _ | y
     ·rw [if_pos ⟨hsm, rfl⟩]
     ·simp only
      by_cases ho : y.same = ⟨#[]⟩ ∧ y.kind = 1
      ·rw [if_pos ho]
       simp only
       by_cases hm : y.mode ≠ x.mode ∨ x.dat ≠ ⟨#[]⟩
       ·rw [if_pos hm, if_pos ⟨hsm, by simp only [decide_eq_true_eq]; exact .inr (.inr hm)⟩]
       ·rw [if_neg hm, if_neg (fun e => by
         have := of_decide_eq_true e.2
         rcases this with h1 | h1 | h1
         ·exact h1 ho.2
         ·exact h1 ho.1
         ·exact hm h1)]
      ·rw [if_neg ho]
       rw [if_pos ⟨hsm, by
        rw [decide_eq_true_iff]
        by_cases h1 : y.kind = 1
        ·exact .inr (.inl fun h2 => ho ⟨h2, h1⟩)
        ·exact .inl h1⟩]
theorem refGo_eq : ∀ (r pre : List Itm) (k : Nat), Rise pre -> ckGo (ckSt pre) k r = refGo pre k r
 | [], _, _, _ => rfl
 | x :: r, pre, k, h => by
   unfold ckGo refGo
   rw [add_ref h x]
   by_cases he : refAdd pre x ≠ 0
   ·rw [if_pos he, if_pos he]
   ·rw [if_neg he, if_neg he, <- ckSt_snoc]
    refine refGo_eq r (pre ++ [x]) (k + 1) (rise_snoc h ?_)
    rcases hb : (match pre.getLast? with | some y => bLt y.p x.p | none => true) with _ | _
    ·refine absurd ?_ he
     unfold refAdd
     by_cases hs : shpE x ≠ 0
     ·rw [if_pos hs]; exact hs
     ·rw [if_neg hs, if_pos hb]; decide
    ·exact hb
theorem ckE_ref (l : List Itm) : ckE l = if l.length = 0 then (12, 0) else if 4096 < l.length then (24, 0) else refGo [] 0 l := by
 unfold ckE
 rw [show ckGo ck0 0 l = ckGo (ckSt []) 0 l from rfl, refGo_eq l [] 0 List.Pairwise.nil]
end Go.Proofs.YtonkgdoaobojbaaGreatDoor
set_option maxHeartbeats 8000000
namespace Go.Proofs.YtonkgdoaobojbaaGreatDoor
open Go Go.RowKit
theorem r2Right_any (s : ByteArray) (hs : s.size <= maxLen) (w : World) : Calls Tryz.prog 44 #[.string s] w fun e w' => e = .returned (.bool (rightB s)) ∧ w = w' := by
 have HH := Lib.hid (fun wx => r2has_any s 0 wx hs (by decide) (by decide))
 rw [show ((0 : Int)).toNat.toUInt8 = 0 from rfl] at HH
 have hR : rightB s = (decide (1 <= s.size) && decide (s.size <= 4095) && !hasB s 0) := rfl
 rw [hR]
 clear hR hs
 generalize hasB s 0 = b at *
 by_cases h1 : 1 <= s.size
 ·rw [decide_eq_true h1]
  have h1' : (1 : Int) <= (s.size : Int) := by omega
  by_cases h2 : s.size <= 4095
  ·rw [decide_eq_true h2]
   have h2' : (s.size : Int) <= 4095 := by omega
   clear h1 h2
   cases b
   all_goals
    go_enter Tryz.func44, Tryz.ntmps44
    go_wp2_with (go_at_call 74; go_loud (refine (HH.out _).mono ?_); rintro e w1 ⟨rfl, rfl⟩)
    go_ret
    exact ⟨rfl, rfl⟩
  ·rw [decide_eq_false h2]
   have h2' : ¬ (s.size : Int) <= 4095 := by omega
   clear h1 h2
   go_enter Tryz.func44, Tryz.ntmps44
   go_wp2
   go_ret
   exact ⟨rfl, rfl⟩
 ·rw [decide_eq_false h1]
  have h1' : ¬ (1 : Int) <= (s.size : Int) := by omega
  clear h1
  go_enter Tryz.func44, Tryz.ntmps44
  go_wp2
  go_ret
  exact ⟨rfl, rfl⟩
theorem r2Plain_any (s : ByteArray) (hs : s.size <= 1000000) (w : World) : Calls Tryz.prog 43 #[.string s] w fun e w' => e = .returned (.bool (plainB s)) ∧ Keeps NoB w w' := by
 have HR := Lib.hid (fun w1 : World => r2Right_any s (by unfold maxLen; omega) w1)
 have HPz := Lib.hid (pcs_size s)
 have HN := Lib.hid (fun (p : ByteArray) (hp : p ∈ pcs s) (w1 : World) => r2name_any p w1 (by have := pcs_size s p hp; unfold maxLen; omega))
 have HS := Lib.hid (fun w1 : World => pieces_any s w1 (by omega))
 have hlen := pcs_length s
 have HP : Hid (plainB s = (rightB s && (pcs s).all okName)) := Lib.hid rfl
 have hpos : 0 < (pcs s).length := by
  unfold pcs
  rw [List.length_map]
  exact List.length_pos_iff.2 (pcsL_ne _)
 clear HPz
 generalize plainB s = PB at *
 generalize pcs s = l at *
 generalize rightB s = rb at *
 go_enter Tryz.func43, Tryz.ntmps43
 go_upto_region 3 with (go_at_call 72; go_loud (refine (HS.out _).mono ?_); rintro e w2 ⟨v, rfl, hown, hk2⟩; obtain ⟨gb, cap, cur, rfl, _, hcb, hc1, hc2, _, _⟩ := hown.row hpos)
 have hat := Lib.hid hown.at
 have HK := Lib.hid hk2
 unfold maxLen at hc2
 clear hown hcb hk2
 go_loop [4] (fun i => ∃ k : Nat, k <= l.length ∧ i = .int .i64 k ∧ Hid ((l.take k).all okName = true)) (fun i => l.length + 1 - (intOf i).toNat)
 case atStart => exact ⟨0, Nat.zero_le _, rfl, Lib.hid rfl⟩
 case round =>
  obtain ⟨k, hk, rfl, hI⟩ := hrel
  by_cases hlt : k < l.length
  ·obtain ⟨x, hx⟩ : ∃ x, l[k]? = some x := ⟨_, List.getElem?_eq_getElem hlt⟩
   obtain ⟨g', off, he, _, _, f0⟩ := hat.out.str hx
   cases he
   rw [Nat.zero_add] at f0
   have fl := lt_of_cell f0
   have HNx := Lib.hid (HN.out x (List.mem_of_getElem? hx))
   have HSt : Hid ((l.take (k + 1)).all okName = okName x) := Lib.hid (by rw [List.take_add_one, hx, List.all_append, hI.out]; simp)
   have HAll : Hid (okName x = false -> l.all okName = false) := Lib.hid (fun h => by
    rw [Bool.eq_false_iff]
    intro h2
    rw [List.all_eq_true.1 h2 x (List.mem_of_getElem? hx)] at h
    cases h)
   clear hx hI
   generalize okName x = b at *
   cases b
   ·go_wp2_with (go_at_call 73; go_loud (refine (HNx.out _).mono ?_); rintro e w3 ⟨rfl, rfl⟩)
    go_ret
    rw [HP.out, HAll.out (by first | exact trivial | rfl), Bool.and_false]
    exact ⟨rfl, HK.out⟩
   ·go_wp2_with (go_at_call 73; go_loud (refine (HNx.out _).mono ?_); rintro e w3 ⟨rfl, rfl⟩)
    go_round
    case rel => exact ⟨k + 1, by omega, by go_num, HSt⟩
    case measure => (simp [intOf]) <;> omega
  ·obtain rfl : k = l.length := by omega
   have hI2 := hI.out
   rw [List.take_length] at hI2
   have HE : Hid (PB = rb) := Lib.hid (by rw [HP.out, hI2, Bool.and_true])
   clear hI hI2
   go_wp2_with (go_at_call 44; go_loud (refine (HR.out _).mono ?_); rintro e w3 ⟨rfl, rfl⟩)
   go_ret
   rw [HE.out]
   exact ⟨rfl, HK.out⟩
theorem refUp_any (s : ByteArray) (hs : s.size <= 1000000) (w : World) : Calls Tryz.prog 27 #[.string s] w fun e w' => e = .returned (.string (upR s)) ∧ w = w' := by
 have hU : Hid (upR s = if lastI s 47 s.size < 0 then ⟨#[]⟩ else s.extract 0 (lastI s 47 s.size).toNat) := Lib.hid rfl
 generalize upR s = U at *
 obtain ⟨P, hP⟩ : ∃ P, lastI s 47 s.size = P := ⟨_, rfl⟩
 rw [hP] at hU
 have HP := Lib.hid hP
 clear hP
 go_enter Tryz.func27, Tryz.ntmps27
 go_wp2
 go_loop [3] (fun v => ∃ k : Int, v = .int .i64 k ∧ -1 <= k ∧ k < s.size ∧ Hid (lastI s 47 (k + 1).toNat = P)) (fun v => (intOf v + 1).toNat)
 case atStart => exact ⟨(s.size : Int) - 1, by go_num, by omega, by omega, by rw [show ((s.size : Int) - 1 + 1).toNat = s.size by omega]; exact HP⟩
 case round =>
  obtain ⟨k, rfl, h1, h2, hI⟩ := hrel
  by_cases h0 : 0 <= k
  ·obtain ⟨j, rfl⟩ : ∃ j : Nat, k = j := ⟨k.toNat, by omega⟩
   have hj : j < s.size := by omega
   obtain ⟨z, hzz⟩ : ∃ z, s[j] = z := ⟨_, rfl⟩
   have hjl : s.data.toList[j]? = some z := by
    rw [List.getElem?_eq_getElem (by rw [len_data]; exact hj), <- hzz]
    rfl
   have hI2 := hI.out
   rw [show ((j : Int) + 1).toNat = j + 1 by omega, lastI, hjl] at hI2
   clear hI
   by_cases hc : z = 47
   ·subst hc
    rw [if_pos rfl] at hI2
    have HR : Hid (U = s.extract 0 j) := Lib.hid (by rw [hU.out, <- hI2, if_neg (by omega)]; rfl)
    clear hI2 hjl
    go_wp2
    go_ret
    rw [HR.out]
    exact ⟨rfl, rfl⟩
   ·have hb : ((z.toNat : Int) == 47) = false := by
     rw [byte_eq z 47 (by decide) (by decide), decide_eq_false_iff_not]
     exact hc
    rw [if_neg (by simpa using hc)] at hI2
    have HR : Hid (lastI s 47 ((j : Int) - 1 + 1).toNat = P) := Lib.hid (by rw [show ((j : Int) - 1 + 1).toNat = j by omega]; exact hI2)
    clear hc hI2 hjl
    go_wp2
    go_round
    case rel => exact ⟨(j : Int) - 1, by go_num, by omega, by omega, HR⟩
    case measure => first | (simp [intOf]; done) | (simp [intOf]; omega)
  ·obtain rfl : k = -1 := by omega
   have HR : Hid (-1 = P) := hI
   have HU2 : Hid (U = ⟨#[]⟩) := Lib.hid (by rw [hU.out, <- HR.out]; rfl)
   clear hI
   go_wp2
   go_ret
   rw [HU2.out]
   exact ⟨rfl, rfl⟩
def fndN (l : List Itm) (s : ByteArray) : Option Nat := l.findIdx? (fun y => decide (y.p = s))
theorem str_eq (a b : ByteArray) : (a.toList == b.toList) = decide (a = b) := by
 rw [Lib.toList_data, Lib.toList_data]
 rcases Decidable.em (a = b) with h | h
 ·subst h; simp
 ·rw [decide_eq_false h, beq_eq_false_iff_ne]
  exact fun e => h (ba_eq e)
theorem refFind_any (l : List Itm) (s : ByteArray) (w : World) {S : Nat -> Prop} {p : Option Addr} {c : Nat} (hS : SlAt encItm S w p c l) :
 Calls Tryz.prog 28 #[.slice p l.length c, .string s] w fun e w' => e = .returned (.int .i64 (match fndN l s with | some n => (n : Int) | none => -1)) ∧ w = w' := by
 have hcap := hS.cap
 have hmax := hS.max
 unfold maxLen at hmax
 have HS := Lib.hid hS
 obtain ⟨R, hR⟩ : ∃ R, (match fndN l s with | some n => (n : Int) | none => -1) = R := ⟨_, rfl⟩
 rw [hR]
 have HR := Lib.hid hR
 clear hS hR
 go_enter Tryz.func28, Tryz.ntmps28
 go_wp2
 go_loop [5] (fun i => ∃ k : Nat, k <= l.length ∧ i = .int .i64 k ∧ Hid (∀ (j : Nat) x, j < k -> l[j]? = some x -> x.p ≠ s)) (fun i => l.length + 1 - (intOf i).toNat)
 case atStart => exact ⟨0, Nat.zero_le _, rfl, Lib.hid (fun j x hj => by omega)⟩
 case round =>
  obtain ⟨k, hk, rfl, hI⟩ := hrel
  by_cases hlt : k < l.length
  ·obtain ⟨x, hx⟩ : ∃ x, l[k]? = some x := ⟨_, List.getElem?_eq_getElem hlt⟩
   obtain ⟨g, off, rfl, _, hg, f0, _⟩ := HS.out.itm hx
   have fl := lt_of_cell f0
   have hq := str_eq x.p s
   by_cases he : x.p = s
   ·rw [decide_eq_true he] at hq
    have HE : Hid ((k : Int) = R) := Lib.hid (by
     rw [<- HR.out]
     have hf : fndN l s = some k := by
      unfold fndN
      rw [List.findIdx?_eq_some_iff_getElem]
      refine ⟨hlt, ?_, fun j hj => ?_⟩
      ·rw [decide_eq_true_iff]
       rw [List.getElem?_eq_getElem hlt] at hx
       rw [Option.some.inj hx]; exact he
      ·rw [decide_eq_true_iff]
       exact hI.out j _ hj (List.getElem?_eq_getElem (by omega))
     rw [hf])
    obtain ⟨xp, xk, xm, xd, xs⟩ := x
    simp only at f0 hq
    clear he hx hI
    go_wp2
    go_ret
    rw [HE.out]
    exact ⟨rfl, rfl⟩
   ·rw [decide_eq_false he] at hq
    have HN : Hid (∀ (j : Nat) y, j < k + 1 -> l[j]? = some y -> y.p ≠ s) := Lib.hid (fun j y hj hy => by
     by_cases h : j = k
     ·subst h
      rw [hx] at hy
      cases hy
      exact he
     ·exact hI.out j y (by omega) hy)
    obtain ⟨xp, xk, xm, xd, xs⟩ := x
    simp only at f0 hq
    clear he hx hI
    go_wp2
    go_round
    case rel => exact ⟨k + 1, by omega, by go_num, HN⟩
    case measure => (simp [intOf]) <;> omega
  ·obtain rfl : k = l.length := by omega
   have HE : Hid (-1 = R) := Lib.hid (by
    rw [<- HR.out]
    have hf : fndN l s = none := by
     unfold fndN
     rw [List.findIdx?_eq_none_iff]
     intro x hx
     rw [decide_eq_false_iff_not]
     obtain ⟨j, hj, e⟩ := List.mem_iff_getElem.1 hx
     exact hI.out j x hj (by rw [List.getElem?_eq_getElem hj, e])
    rw [hf])
   clear hI
   go_wp2
   go_ret
   rw [HE.out]
   exact ⟨rfl, rfl⟩
theorem newline_x (w : World) : Calls Tryz.prog 76 #[.string ⟨#[120]⟩] w fun e w' => e = .returned (.bool false) ∧ w = w' := by
 go_enter Tryz.func76, Tryz.ntmps76
 go_wp2
 go_loop [3] (fun i => i = .int .i64 0 ∨ i = .int .i64 1) (fun i => 2 - (intOf i).toNat)
 case atStart => exact .inl rfl
 case round =>
  rcases hrel with rfl | rfl
  ·go_wp2
   go_round
   case rel => exact .inr (by go_num)
   case measure => simp [intOf]
  ·go_wp2
   go_ret
   exact ⟨rfl, rfl⟩
theorem digits_600 (w : World) : Calls Tryz.prog 77 #[.int .i64 384] w fun e w' => e = .returned (.string ⟨#[54, 48, 48]⟩) ∧ Keeps NoB w w' := by
 have hcv := own_str (own_lit (E := encU8) (e := 5) (w := w) (S := fun _ => True) [54, 48, 48] #[.int .u8 54, .int .u8 48, .int .u8 48] rfl 3 rfl trivial (by decide))
 rw [show (⟨([54, 48, 48] : List UInt8).toArray⟩ : ByteArray) = ⟨#[54, 48, 48]⟩ from rfl] at hcv
 have HK := Lib.hid ((Keeps.refl NoB w).alloc (.cells #[.int .u8 54, .int .u8 48, .int .u8 48] 5))
 go_enter Tryz.func77, Tryz.ntmps77
 go_wp2
 go_ret
 exact ⟨rfl, HK.out⟩
theorem right_x : rightB ⟨#[120]⟩ = true := by decide +kernel
theorem refEncode_any (s : ByteArray) (hs : s.size <= 1000000) (w : World) : Calls Tryz.prog 48 #[.int .i64 384, .string ⟨#[120]⟩, .string s] w fun e w' => e = .returned (.tuple #[.string ⟨(encB s.data.toList).toArray⟩, .int .i64 0]) ∧ Keeps NoB w w' := by
 have HN := Lib.hid (fun w1 : World => newline_x w1)
 have HD := Lib.hid (fun w1 : World => digits_600 w1)
 have hR := fun w1 : World => r2Right_any ⟨#[120]⟩ (by decide) w1
 rw [right_x] at hR
 have HR := Lib.hid hR
 have hl := len_data s
 have hRe := fun w1 : World => refRest_any s hs w1
 have hz : (uuRest s.data.toList).length <= 2000100 := by rw [uuRest_len, hl]; have := uuSize_le s.size; omega
 obtain ⟨y, hy⟩ : ∃ y : ByteArray, ⟨(uuRest s.data.toList).toArray⟩ = y := ⟨_, rfl⟩
 rw [hy] at hRe
 have hyl : y.data.toList = uuRest s.data.toList := by rw [<- hy]
 have hys : y.size <= 2000100 := by rw [<- len_data, hyl]; exact hz
 have HE : Hid ((⟨#[98, 101, 103, 105, 110, 32, 54, 48, 48, 32, 120, 10]⟩ : ByteArray) ++ y = ⟨(encB s.data.toList).toArray⟩) := Lib.hid (by
  apply ba_eq
  rw [append_toList, hyl, toList_mk]
  rfl)
 generalize (⟨(encB s.data.toList).toArray⟩ : ByteArray) = T at *
 have HRe := Lib.hid hRe
 have hcat : (9223372036854775807 < (⟨#[98, 101, 103, 105, 110, 32, 54, 48, 48, 32, 120, 10]⟩ : ByteArray).size + y.size) = False := by rw [eq_iff_iff, iff_false, show (⟨#[98, 101, 103, 105, 110, 32, 54, 48, 48, 32, 120, 10]⟩ : ByteArray).size = 12 from rfl]; omega
 have hc13 : (9223372036854775807 < 12 + y.size) = False := by rw [eq_iff_iff, iff_false]; omega
 clear hl hR hRe hz hy hyl hys
 go_enter Tryz.func48, Tryz.ntmps48
 go_upto_region 5 with (first | (go_at_call 44; go_loud (refine (HR.out _).mono ?_); rintro e w1 ⟨rfl, rfl⟩) | (go_at_call 76; go_loud (refine (HN.out _).mono ?_); rintro e w2 ⟨rfl, rfl⟩))
 go_wp2_with (first | (go_at_call 77; go_loud (refine (HD.out _).mono ?_); rintro e w3 ⟨rfl, hk3⟩) | (go_at_call 78; go_loud (refine (HRe.out _).mono ?_); rintro e w4 ⟨rfl, hk4⟩))
 go_ret2
 rw [<- HE.out]
 exact ⟨rfl, hk3.trans hk4⟩
theorem refTell_any (way : Int) (x : ByteArray) (hs : x.size <= 1000000) (w : World) : Calls Tryz.prog 31 #[.int .i64 way, .string x] w fun e w' => e = .returned (.string (tellB way x)) ∧ Keeps NoB w w' := by
 by_cases h1 : way = 1
 ·subst h1
  rw [show tellB 1 x = x from rfl]
  go_enter Tryz.func31, Tryz.ntmps31
  go_wp2
  go_ret
  exact ⟨rfl, Keeps.refl _ _⟩
 ·have b1 : (way == 1) = false := by simpa using h1
  by_cases h2 : way = 2
  ·subst h2
   have HE := Lib.hid (fun w1 : World => refEncode_any x hs w1)
   rw [show tellB 2 x = ⟨(encB x.data.toList).toArray⟩ from rfl]
   generalize (⟨(encB x.data.toList).toArray⟩ : ByteArray) = t at *
   clear h1
   go_enter Tryz.func31, Tryz.ntmps31
   go_wp2_with (go_at_call 48; go_loud (refine (HE.out _).mono ?_); rintro e w1 ⟨rfl, hk1⟩)
   go_ret
   exact ⟨rfl, hk1⟩
  ·have b2 : (way == 2) = false := by simpa using h2
   rw [show tellB way x = ⟨(escL x.data.toList).toArray⟩ by unfold tellB; rw [if_neg h1, if_neg h2]]
   have HE := Lib.hid (fun w1 : World => r10Escape_any x w1 (by omega))
   generalize (⟨(escL x.data.toList).toArray⟩ : ByteArray) = t at *
   clear h1 h2
   go_enter Tryz.func31, Tryz.ntmps31
   go_wp2_with (go_at_call 49; go_loud (refine (HE.out _).mono ?_); rintro e w1 ⟨rfl, hk1⟩)
   go_ret
   exact ⟨rfl, hk1⟩
theorem refNext_any (s : ByteArray) (hs : s.size <= 1000000) (h1 : 1 <= s.size) (w : World) : Calls Tryz.prog 29 #[.string s] w fun e w' => e = .returned (.int .i64 ((fstN s : Nat) : Int)) ∧ w = w' := by
 obtain ⟨N, hNd, hN1, hN2, hN3⟩ : ∃ N : Nat, min s.size 20000 = N ∧ 1 <= N ∧ N <= s.size ∧ N <= 20000 := ⟨min s.size 20000, rfl, by omega, by omega, by omega⟩
 have hcs : (decide ((20000 : Int) < (s.size : Int)) = true ∧ (N : Int) = 20000) ∨ (decide ((20000 : Int) < (s.size : Int)) = false ∧ (N : Int) = (s.size : Int)) := by
  by_cases h : 20000 < s.size
  ·exact .inl ⟨decide_eq_true (by omega), by omega⟩
  ·exact .inr ⟨decide_eq_false (by omega), by omega⟩
 have HT := Lib.hid (fun (i : Nat) (hi : i < N) (w1 : World) => refText_any (s.extract 0 (i + 1)) (by rw [ByteArray.size_extract]; omega) (by rw [ByteArray.size_extract]; omega) w1)
 have HF : Hid (fstN s = if 0 <= lastI s 10 N ∧ txB (s.extract 0 ((lastI s 10 N).toNat + 1)) = true then (lastI s 10 N).toNat + 1 else N) := Lib.hid (by unfold fstN; rw [hNd])
 have HNs := Lib.hid hN2
 have HN3 := Lib.hid hN3
 generalize fstN s = F at *
 have hNI : (N : Int) <= (s.size : Int) := by omega
 have hNm : (N : Int) <= 20000 := by omega
 have hs9 : (s.size : Int) <= 1000000 := by omega
 clear hNd hN1 hN2 hN3 hs h1
 rcases hcs with ⟨t, hn⟩ | ⟨t, hn⟩
 all_goals
  have HNn := Lib.hid hn
  go_enter Tryz.func29, Tryz.ntmps29
  go_upto_region 4 with fail
  rw [<- HNn.out]
  clear hn
  go_upto_region 5 with fail
  go_loop [4] (fun v => ∃ k : Int, v = .int .i64 k ∧ -1 <= k ∧ k < (N : Int) ∧ Hid (lastI s 10 N = lastI s 10 (k + 1).toNat)) (fun v => (intOf v + 1).toNat)
  case atStart => exact ⟨(N : Int) - 1, by go_num, by omega, by omega, Lib.hid (by rw [show ((N : Int) - 1 + 1).toNat = N by omega])⟩
  case round =>
   obtain ⟨k, rfl, hk1, hk2, hI⟩ := hrel
   by_cases h0 : 0 <= k
   ·obtain ⟨j, rfl⟩ : ∃ j : Nat, k = j := ⟨k.toNat, by omega⟩
    have hj : j < s.size := by have := HNs.out; omega
    have hjN : j < N := by omega
    obtain ⟨z, hz⟩ : ∃ z, s.data.toList[j]? = some z := ⟨_, List.getElem?_eq_getElem (by rw [len_data]; exact hj)⟩
    have hix := fun wx => idx_str s j (j : Int) rfl z hz wx
    have hI2 := hI.out
    rw [show ((j : Int) + 1).toNat = j + 1 by omega, lastI, hz] at hI2
    clear hI
    by_cases hc : z = 10
    ·subst hc
     rw [if_pos rfl] at hI2
     have hF2 := HF.out
     rw [hI2, show ((j : Int)).toNat = j from rfl] at hF2
     have HTj := Lib.hid (HT.out j hjN)
     have hji : (j : Int) + 1 <= (s.size : Int) := by omega
     have hj0 : (0 : Int) <= (j : Int) := by omega
     have HF2 := Lib.hid hF2
     clear hI2 hz hF2
     generalize hb : txB (s.extract 0 (j + 1)) = b at *
     cases b with
     | true =>
       have HF3 : Hid (F = j + 1) := Lib.hid (by rw [HF2.out, if_pos (by simp)])
       go_wp2_with (go_at_call 45; go_loud (refine (HTj.out _).mono ?_); rintro e w2 ⟨rfl, rfl⟩)
       go_ret
       rw [HF3.out]
       exact ⟨rfl, rfl⟩
     | false =>
       have HF3 : Hid (F = N) := Lib.hid (by rw [HF2.out, if_neg (by simp)])
       go_wp2_with (go_at_call 45; go_loud (refine (HTj.out _).mono ?_); rintro e w2 ⟨rfl, rfl⟩)
       go_ret
       rw [HF3.out]
       exact ⟨rfl, rfl⟩
    ·have hbq : ((z.toNat : Int) == 10) = false := by
      rw [byte_eq z 10 (by decide) (by decide), decide_eq_false_iff_not]
      exact hc
     rw [if_neg (by simpa using hc)] at hI2
     have HR : Hid (lastI s 10 N = lastI s 10 ((j : Int) - 1 + 1).toNat) := Lib.hid (by rw [show ((j : Int) - 1 + 1).toNat = j by omega]; exact hI2)
     clear hc hI2 hz
     go_wp2
     go_round
     case rel => exact ⟨(j : Int) - 1, by go_num, by omega, by omega, HR⟩
     case measure => first | (simp [intOf]; done) | (simp [intOf]; omega)
   ·obtain rfl : k = -1 := by omega
    have hI2 : lastI s 10 N = -1 := hI.out
    have HF3 : Hid (F = N) := Lib.hid (by rw [HF.out, hI2, if_neg (by simp)])
    clear hI hI2
    go_wp2
    go_ret
    rw [HF3.out]
    exact ⟨rfl, rfl⟩
theorem refOwn_any (l : List Itm) (hl : l.length <= 100000) (w : World) {S : Nat -> Prop} {p : Option Addr} {c : Nat} (hS : SlAt encItm S w p c l) :
 Calls Tryz.prog 13 #[.slice p l.length c] w fun e w' => ∃ v, e = .returned v ∧ Own encInt 3 (fun g => w.heap.size <= g) w' v (ownN l l.length) ∧ Keeps NoB w w' := by
 have hcap := hS.cap
 have hmax := hS.max
 unfold maxLen at hmax
 have HS := Lib.hid hS
 clear hS
 go_enter Tryz.func13, Tryz.ntmps13
 go_upto_region 3 with fail
 go_loopw [3, 4] (fun v i wr => ∃ k : Nat, k <= l.length ∧ i = .int .i64 k ∧ Own encInt 3 (fun g => w.heap.size <= g) wr v (ownN l k) ∧ Keeps NoB w wr) (fun _ i _ => l.length + 1 - (intOf i).toNat)
 case atStart => exact ⟨0, Nat.zero_le _, rfl, Own.nil _ _ _ _, Keeps.refl _ _⟩
 case round =>
  rename World => wr
  obtain ⟨k, hk, rfl, ho, hkr⟩ := hrel
  have HO := Lib.hid ho
  have HKr := Lib.hid hkr
  by_cases hlt : k < l.length
  ·obtain ⟨x, hx⟩ : ∃ x, l[k]? = some x := ⟨_, List.getElem?_eq_getElem hlt⟩
   obtain ⟨g, o, rfl, _, hgl, c0, c1, c2, c3, c4⟩ := HS.out.itm hx
   have d1 := (hkr.cell (p := ⟨g, o + k * 5 + 1, none⟩) hgl (fun h => h)).trans c1
   have d4 := (hkr.cell (p := ⟨g, o + k * 5 + 4, none⟩) hgl (fun h => h)).trans c4
   have dl := lt_of_cell d1
   have HW : Hid (ownN l (k + 1) = ownN l k ++ (if x.kind = 1 ∧ x.same = ⟨#[]⟩ then [(k : Int)] else [])) := Lib.hid (by rw [ownN, hx])
   have hol : (ownN l k).length <= k := ownN_len l k
   obtain ⟨xp, xk, xm, xd, xs⟩ := x
   simp only at d1 d4 HW
   have hki : (k : Int) < (l.length : Int) := by omega
   clear c0 c1 c2 c3 c4 hx ho hkr
   by_cases hk1 : xk = 1
   ·subst hk1
    by_cases hs1 : xs = ⟨#[]⟩
    ·subst hs1
     have HW2 : Hid (ownN l (k + 1) = ownN l k ++ [(k : Int)]) := Lib.hid (HW.out.trans (by rw [if_pos ⟨rfl, rfl⟩]))
     have hzw := HKr.out.size
     go_wp2_with (at_builtin; go_loud (refine wpl_append rfl (.tmp 25) (.tmp 27) rfl tInt26 (HO.out.keep (F := NoB) ((Keeps.refl _ _).alloc _) (fun _ _ h => h)) (own_lit (E := encInt) (e := 3) (w := wr) (S := fun _ => True) [(k : Int)] #[.int .i64 (k : Int)] rfl 1 rfl trivial (by decide)).sl rfl rfl (by simp; omega) (by simp [maxLen]; omega) (by simp; omega) ?_))
     intro v' w5 ho5 hk5 hf5
     rw [<- HW2.out] at ho5
     go_wp2_with fail
     go_roundw
     case rel => exact ⟨k + 1, by omega, by go_num, ho5, (HKr.out.alloc _).step hk5 (fun g hg => .inr (HO.out.2 g hg))⟩
     case measure => (simp [intOf]) <;> omega
    ·have hsn : (xs.toList.isEmpty) = false := by simpa using notEmpty_eq hs1
     have HW2 : Hid (ownN l (k + 1) = ownN l k) := Lib.hid (HW.out.trans (by rw [if_neg (fun h => hs1 h.2), List.append_nil]))
     have HO2 : Hid (Own encInt 3 (fun g => w.heap.size <= g) wr _ (ownN l (k + 1))) := Lib.hid (by rw [HW2.out]; exact HO.out)
     clear hs1
     go_wp2
     go_roundw
     case rel => exact ⟨k + 1, by omega, by go_num, HO2.out, HKr.out⟩
     case measure => (simp [intOf]) <;> omega
   ·have hkn : (xk == 1) = false := by simpa using hk1
    have HW2 : Hid (ownN l (k + 1) = ownN l k) := Lib.hid (HW.out.trans (by rw [if_neg (fun h => hk1 h.1), List.append_nil]))
    have HO2 : Hid (Own encInt 3 (fun g => w.heap.size <= g) wr _ (ownN l (k + 1))) := Lib.hid (by rw [HW2.out]; exact HO.out)
    clear hk1
    go_wp2
    go_roundw
    case rel => exact ⟨k + 1, by omega, by go_num, HO2.out, HKr.out⟩
    case measure => (simp [intOf]) <;> omega
  ·obtain rfl : k = l.length := by omega
   go_wp2
   go_ret
   exact ⟨_, rfl, HO.out, HKr.out⟩
theorem tPrtR : ElemT Tryz.prog encPrt 37 44 ⟨0, 0, ⟨#[]⟩⟩ 32 :=
 .of (.agg #[.int .i64 0, .int .i64 0, .string ⟨#[]⟩]) Tryz.underlying37 (by kernel_rfl) rfl
def WaysR (ws : List Int) (w : World) (v : Value) (wx : World) : Prop :=
 ∃ wp wc, v = .slice wp (waysP ws).length wc ∧ SlAt encInt (fun g => g < wx.heap.size) wx wp wc (waysP ws) ∧ Keeps NoB w wx
structure RpI (l : List Itm) (ws : List Int) (w : World) (M : Nat) (op wp : Option Addr) (oc wc : Nat) (all : List Prt) (E : Int) (wr : World) (k : Nat) (v : Value) (old : List Prt) : Prop where
 parts : Own encPrt 44 (fun g => M <= g) wr v old
 own : SlAt encInt (fun g => g < M) wr op oc (ownN l l.length)
 ways : SlAt encInt (fun g => g < M) wr wp wc ws
 len : old.length <= k * 500000
 eq : old ++ partsD ws k ((datsP l).drop k) = all
 err : firstE ws ((datsP l).drop k) = E
 size : M <= wr.heap.size
 keeps : Keeps NoB w wr
structure RpJ (ws : List Int) (w : World) (M : Nat) (op wp : Option Addr) (oc wc : Nat) (k : Int) (own : List Int) (old all : List Prt) (fe : Int) (wr : World) (s : ByteArray) (v : Value) (dn : List Prt) : Prop where
 parts : Own encPrt 44 (fun g => M <= g) wr v (old ++ dn)
 own : SlAt encInt (fun g => g < M) wr op oc own
 ways : SlAt encInt (fun g => g < M) wr wp wc ws
 len : dn.length + s.size <= 500000
 eq : dn ++ (cuts s).map (partP k ws) = all
 err : fileE ws (cuts s) = fe
 size : M <= wr.heap.size
 keeps : Keeps NoB w wr
def PartsTo (l : List Itm) (ws : List Int) (w : World) (e : Ending) (w' : World) : Prop :=
 Keeps NoB w w' ∧ if firstE (waysP ws) (datsP l) ≠ 0 then e = .returned (.tuple #[.slice none 0 0, .int .i64 (firstE (waysP ws) (datsP l))])
  else ∃ v, e = .returned (.tuple #[v, .int .i64 0]) ∧ Own encPrt 44 (fun g => w.heap.size <= g) w' v (partsD (waysP ws) 0 (datsP l))
theorem PartsTo.no {l : List Itm} {ws : List Int} {w : World} {e : Ending} {w' : World} (k : Keeps NoB w w') (h2 : firstE (waysP ws) (datsP l) ≠ 0) (he : e = .returned (.tuple #[.slice none 0 0, .int .i64 (firstE (waysP ws) (datsP l))])) : PartsTo l ws w e w' :=
 ⟨k, by rw [if_pos h2]; exact he⟩
theorem PartsTo.yes {l : List Itm} {ws : List Int} {w : World} {e : Ending} {w' : World} (k : Keeps NoB w w') (h2 : ¬ firstE (waysP ws) (datsP l) ≠ 0) {v : Value} (he : e = .returned (.tuple #[v, .int .i64 0]))
 (hp : Own encPrt 44 (fun g => w.heap.size <= g) w' v (partsD (waysP ws) 0 (datsP l))) : PartsTo l ws w e w' := ⟨k, by rw [if_neg h2]; exact ⟨v, he, hp⟩⟩
theorem refParts_any (l : List Itm) (hl : ∀ i ∈ l, i.dat.size <= 500000) (hll : l.length <= 5000) (ws : List Int) (hws : ws.length <= 1000) (w : World) {S1 S2 : Nat -> Prop} {p wp : Option Addr} {cp wc : Nat} (hS : SlAt encItm S1 w p cp l) (hW : SlAt encInt S2 w wp wc ws) :
 Calls Tryz.prog 12 #[.slice p l.length cp, .slice wp ws.length wc] w fun e w' => PartsTo l ws w e w' := by
 have HS := Lib.hid hS
 have HW := Lib.hid hW
 have HL := Lib.hid hl
 have hcap := hS.cap
 have hmax := hS.max
 have hwcap := hW.cap
 have hwmax := hW.max
 unfold maxLen at hmax hwmax
 have HWn : Hid (ws.length = 0 -> waysP ws = [1, 2, 3]) := Lib.hid (fun h => if_pos h)
 have HWy : Hid (0 < ws.length -> waysP ws = ws) := Lib.hid (fun h => if_neg (by omega))
 have HWl : Hid (1 <= (waysP ws).length ∧ (waysP ws).length <= 1000) := Lib.hid (by
  unfold waysP
  split
  ·exact ⟨by decide, by decide⟩
  ·exact ⟨by omega, hws⟩)
 obtain ⟨bz, hbz⟩ : ∃ bz, ((ws.length : Int) == 0) = bz := ⟨_, rfl⟩
 have hnil : (ws.length = 0 ∧ bz = true) ∨ (0 < ws.length ∧ bz = false) := by
  by_cases h : ws.length = 0
  ·exact .inl ⟨h, by rw [<- hbz]; simp [h]⟩
  ·exact .inr ⟨by omega, by rw [<- hbz]; simpa using h⟩
 have Hnil := Lib.hid hnil
 clear hS hW hl hws hnil
 go_enter Tryz.func12, Tryz.ntmps12
 go_upto_if 15 with fail
 go_cut [1] from 16 to 16 (fun v wx => WaysR ws w v wx)
 case first =>
  rcases Hnil.out with ⟨h0', rfl⟩ | ⟨h0', rfl⟩ <;> have h0 := Lib.hid h0' <;> clear h0'
  ·have HLit := Lib.hid (own_lit (E := encInt) (e := 3) (w := w) (S := fun _ => True) [1, 2, 3] #[.int .i64 1, .int .i64 2, .int .i64 3] rfl 3 rfl trivial (by decide))
   go_wp2
   go_meet
   obtain ⟨p2, c2, he2, hs2⟩ := HLit.out.sl
   cases he2
   refine ⟨some ⟨w.heap.size, 0, none⟩, 3, ?_, ?_, (Keeps.refl _ _).alloc _⟩
   ·rw [HWn.out h0.out]; rfl
   ·rw [HWn.out h0.out]; exact hs2.below
  ·go_wp2
   go_meet
   refine ⟨wp, wc, ?_, ?_, Keeps.refl _ _⟩
   ·rw [HWy.out h0.out]
   ·rw [HWy.out h0.out]; exact HW.out.below
 case rest =>
  obtain ⟨wp', wc', rfl, hwx, hkx⟩ := hcut
  generalize hws' : waysP ws = ws' at *
  have HWx := Lib.hid hwx
  have HKx := Lib.hid hkx
  have HOw := Lib.hid (refOwn_any l (by omega) _ (HS.out.keepN hkx))
  clear hwx hkx Hnil HWn HWy hbz
  rename World => wq
  go_upto_region 6 with (go_at_call 13; go_loud (refine HOw.out.mono ?_); rintro e w2 ⟨v, rfl, ho2, hk2⟩; obtain ⟨op, oc, rfl, hos⟩ := ho2.sl)
  have hoc := hos.cap
  have hom := hos.max
  unfold maxLen at hom
  have HK2 := Lib.hid (HKx.out.trans hk2)
  have HO2 := Lib.hid hos.below
  have HW2 := Lib.hid (HWx.out.keepN hk2)
  have HM : Hid (wq.heap.size <= w2.heap.size ∧ w.heap.size <= w2.heap.size) := Lib.hid ⟨hk2.size, HK2.out.size⟩
  obtain ⟨all, hall⟩ : ∃ all, partsD ws' 0 (datsP l) = all := ⟨_, rfl⟩
  obtain ⟨E, hE⟩ : ∃ E, firstE ws' (datsP l) = E := ⟨_, rfl⟩
  have HAll := Lib.hid hall
  have HE := Lib.hid hE
  have HJ0 : Hid (RpI l ws' w w2.heap.size op wp' oc wc' all E w2 0 (.slice none 0 0) []) := Lib.hid
   ⟨Own.nil _ _ _ _, HO2.out, HW2.out.mono' (fun g hg => Nat.lt_of_lt_of_le hg HM.out.1), Nat.zero_le _, by rw [List.drop_zero, hall]; rfl, by rw [List.drop_zero, hE], Nat.le_refl _, HK2.out⟩
  have hol := ownN_len l l.length
  clear hall hE hos ho2 hk2
  generalize hMd : w2.heap.size = M at *
  go_loopw [6, 8] (fun v i wr => ∃ (k : Nat) (old : List Prt), k <= (ownN l l.length).length ∧ i = .int .i64 k ∧ RpI l ws' w M op wp' oc wc' all E wr k v old) (fun _ i _ => (ownN l l.length).length + 1 - (intOf i).toNat)
  case atStart => exact ⟨0, [], Nat.zero_le _, rfl, HJ0.out⟩
  case round =>
   rename World => wr
   obtain ⟨k, old, hk, rfl, hI⟩ := hrel
   have HI := Lib.hid hI
   by_cases hkt : k < (ownN l l.length).length
   ·obtain ⟨io, hio⟩ : ∃ io, (ownN l l.length)[k]? = some io := ⟨_, List.getElem?_eq_getElem hkt⟩
    obtain ⟨j, x, rfl, hx, hjl, _⟩ := ownN_at l _ k _ hio
    have hdk : (datsP l).drop k = x.dat :: (datsP l).drop (k + 1) := by
     have hlen : (datsP l).length = (ownN l l.length).length := by unfold datsP; rw [List.length_map]
     have hget : (datsP l)[k]? = some x.dat := by
      unfold datsP
      rw [List.getElem?_map, hio]
      show some (datI l (j : Int)) = _
      unfold datI
      rw [show ((j : Int)).toNat = j from rfl, hx]
     rw [List.drop_eq_getElem_cons (by omega)]
     congr 1
     exact Option.some.inj ((List.getElem?_eq_getElem (by omega)).symm.trans hget)
    have hxl := HL.out x (List.mem_of_getElem? hx)
    have hqe := hI.eq
    have her := hI.err
    rw [hdk] at hqe her
    have hcl := cuts_len x.dat x.dat.size (Nat.le_refl _)
    have HQe : Hid (old ++ ((cuts x.dat).map (partP (k : Int) ws') ++ partsD ws' (k + 1) ((datsP l).drop (k + 1))) = all) := Lib.hid hqe
    have HEr : Hid ((if fileE ws' (cuts x.dat) ≠ 0 then fileE ws' (cuts x.dat) else firstE ws' ((datsP l).drop (k + 1))) = E) := Lib.hid her
    have HCl : Hid ((cuts x.dat).length <= 500000) := Lib.hid (Nat.le_trans hcl hxl)
    obtain ⟨g, o, rfl, _, hgl, c0, c1, c2, c3, c4⟩ := HS.out.itm hx
    obtain ⟨g2, o2, rfl, hg2M, hg2, e0⟩ := hI.own.num hio
    have d3 := (hI.keeps.cell (p := ⟨g, o + j * 5 + 3, none⟩) hgl (fun h => h)).trans c3
    have dl := lt_of_cell d3
    have hki : (k : Int) < ((ownN l l.length).length : Int) := by omega
    have hji : (j : Int) < (l.length : Int) := by omega
    have hol9 : old.length <= 4000000000 := by have := hI.len; omega
    have HJs : Hid (RpJ ws' w M (some ⟨g2, o2, none⟩) wp' oc wc' (k : Int) (ownN l l.length) old ((cuts x.dat).map (partP (k : Int) ws')) (fileE ws' (cuts x.dat)) wr x.dat _ []) := Lib.hid
     ⟨by rw [List.append_nil]; exact hI.parts, hI.own, hI.ways, by simp; exact hxl, rfl, rfl, hI.size, hI.keeps⟩
    generalize hcm : (cuts x.dat).map (partP (k : Int) ws') = allk at *
    have HCm : Hid (allk.length <= 500000) := Lib.hid (by rw [<- hcm, List.length_map]; exact HCl.out)
    generalize fileE ws' (cuts x.dat) = fe at *
    obtain ⟨xp, xk, xm, xd, xs⟩ := x
    simp only at d3 HJs
    have HOl := Lib.hid hol9
    have HIl := Lib.hid hI.len
    clear hdk hio hx hjl hxl hqe her hcl c0 c1 c2 c3 c4 hI hcm hol9 HI HCl
    go_upto_region 9 with fail
    go_loopw [6, 9] (fun v sv wz => ∃ (s : ByteArray) (dn : List Prt), sv = .string s ∧ RpJ ws' w M (some ⟨g2, o2, none⟩) wp' oc wc' (k : Int) (ownN l l.length) old allk fe wz s v dn) (fun _ sv _ => match sv with | .string s => s.size | _ => 0)
    case atStart => exact ⟨xd, [], rfl, HJs.out⟩
    case round =>
     rename World => wz
     obtain ⟨s, dn, rfl, hJ⟩ := hrel
     have HJ := Lib.hid hJ
     by_cases h0 : s.size = 0
     ·have hse : s.toList.isEmpty = true := by rw [empty_size, decide_eq_true h0]
      have HA : Hid (dn = allk ∧ 0 = fe) := Lib.hid (by
       have h1 := HJ.out.eq
       have h2 := HJ.out.err
       rw [cuts_nil h0] at h1 h2
       rw [List.map_nil, List.append_nil] at h1
       exact ⟨h1, h2⟩)
      have HEr2 : Hid (firstE ws' ((datsP l).drop (k + 1)) = E) := Lib.hid (by
       have := HEr.out
       rw [<- HA.out.2, if_neg (by simp)] at this
       exact this)
      have HN : Hid (RpI l ws' w M (some ⟨g2, o2, none⟩) wp' oc wc' all E wz (k + 1) _ (old ++ dn)) := Lib.hid
       ⟨hJ.parts, hJ.own, hJ.ways, by rw [List.length_append, HA.out.1]; have := HCm.out; have := HIl.out; omega, by rw [List.append_assoc, HA.out.1]; exact HQe.out, HEr2.out, hJ.size, hJ.keeps⟩
      clear h0 hJ
      go_wp2
      go_roundw
      case rel => exact ⟨k + 1, _, by omega, by go_num, HN.out⟩
      case measure => (simp [intOf]) <;> omega
     ·have hse : s.toList.isEmpty = false := by rw [empty_size, decide_eq_false h0]
      have hs1 : 1 <= s.size := by omega
      have hs2 : s.size <= 500000 := by have := hJ.len; omega
      have hrg := fstN_range s hs1
      have hF1 := Lib.hid (fun w1 : World => refNext_any s (by omega) hs1 w1)
      have hcs := cuts_step hs1
      have hP := hJ.eq
      have hEr := hJ.err
      rw [hcs] at hP hEr
      have hxs : (s.extract 0 (fstN s)).size = fstN s := by rw [ByteArray.size_extract]; omega
      have hrs : (s.extract (fstN s) s.size).size = s.size - fstN s := by rw [ByteArray.size_extract]; omega
      have HBs := Lib.hid (refBest_any (s.extract 0 (fstN s)) (by omega) (by omega) ws' HWl.out.1 HWl.out.2 wz hJ.ways)
      have HTs := Lib.hid (fun way w2 => refTell_any way (s.extract 0 (fstN s)) (by omega) w2)
      have HMs : Hid ((s.extract (fstN s) s.size).size < s.size) := Lib.hid (by omega)
      have HLn : Hid ((dn.length + 1) + (s.extract (fstN s) s.size).size <= 500000) := Lib.hid (by have := hJ.len; omega)
      have hn1 : ((fstN s : Nat) : Int) <= (s.size : Int) := by omega
      have hn0 : (0 : Int) <= ((fstN s : Nat) : Int) := by omega
      have hs9 : (s.size : Int) <= 500000 := by omega
      have HP : Hid (dn ++ ((s.extract 0 (fstN s) :: cuts (s.extract (fstN s) s.size)).map (partP (k : Int) ws')) = allk) := hP
      have HEf : Hid ((if (bestP ws' (s.extract 0 (fstN s))).2 ≠ 0 then (bestP ws' (s.extract 0 (fstN s))).2 else fileE ws' (cuts (s.extract (fstN s) s.size))) = fe) := hEr
      clear h0 hcs hP hEr hxs hrs hrg hs1 hs2
      generalize hn : fstN s = n at *
      generalize hx : s.extract 0 n = y at *
      obtain ⟨B, hB⟩ : ∃ B, bestP ws' y = B := ⟨_, rfl⟩
      have HPt : Hid (partP (k : Int) ws' y = ⟨(k : Int), B.1, tellB B.1 y⟩) := Lib.hid (by unfold partP; rw [hB])
      rw [hB] at HEf HBs
      obtain ⟨way, be⟩ := B
      have HTw := Lib.hid (fun w2 => HTs.out way w2)
      simp only at HEf HBs HPt HTw
      clear hB hn hJ
      by_cases hbe : be = 0
      ·subst hbe
       have HE3 : Hid (fileE ws' (cuts (s.extract n s.size)) = fe) := Lib.hid (by have := HEf.out; rw [if_neg (by simp)] at this; exact this)
       clear HEf
       generalize tellB way y = T at *
       go_upto_region 14 with (first | (go_at_call 29; go_loud (refine (hF1.out _).mono ?_); rintro e w3 ⟨rfl, rfl⟩) | (go_at_call 30; go_loud (refine HBs.out.mono ?_); rintro e w4 ⟨rfl, hk4⟩; have HK4 := Lib.hid hk4; clear hk4))
       have HO4 := Lib.hid (HJ.out.parts.keep (F := NoB) HK4.out (fun _ _ h => h))
       go_wp2_with (first
        | (go_at_call 31; go_loud (refine (HTw.out _).mono ?_); rintro e w5 ⟨rfl, hk5⟩; have HK5 := Lib.hid (HK4.out.trans hk5); have HO5 := Lib.hid (HO4.out.keep (F := NoB) hk5 (fun _ _ h => h)); have HLit := Lib.hid (own_lit (E := encPrt) (e := 44) (w := w5) (S := fun _ => True) [⟨(k : Int), way, T⟩] #[.int .i64 (k : Int), .int .i64 way, .string T] rfl 1 rfl trivial (by decide)); clear hk5)
        | (at_builtin; go_loud (refine wpl_append rfl (.tmp 48) (.tmp 57) rfl tPrtR (HO5.out.keep (F := NoB) ((Keeps.refl _ _).alloc _) (fun _ _ h => h)) HLit.out.sl rfl rfl (by have h1 := HK5.out.size; have h2 := HJ.out.size; simp; omega) (by have h1 := HLn.out; have h2 := HOl.out; simp [maxLen]; omega) (by have h1 := HLn.out; have h2 := HOl.out; simp; omega) ?_)))
       intro v' w6 ho6 hk6 hf6
       have ka : Keeps NoB wz (w5.alloc (.cells #[.int .i64 (k : Int), .int .i64 way, .string T] 44)) := HK5.out.alloc _
       have hM6 : ∀ g, g < M -> ¬ (_ : Value).ownBlock = some g := fun g hg e => by have h1 := HJ.out.parts.2 g e; have h2 : M <= g := h1; omega
       have HN : Hid (RpJ ws' w M (some ⟨g2, o2, none⟩) wp' oc wc' (k : Int) (ownN l l.length) old allk fe w6 (s.extract n s.size) v' (dn ++ [⟨(k : Int), way, T⟩])) := Lib.hid
        ⟨ho6, (HJ.out.own.keepN ka).keep hk6 (fun g hg _ => hM6 g hg), (HJ.out.ways.keepN ka).keep hk6 (fun g hg _ => hM6 g hg), by rw [List.length_append]; exact HLn.out,
          by rw [List.append_assoc, <- HP.out, List.map_cons, HPt.out]; rfl, HE3.out, Nat.le_trans (Nat.le_trans HJ.out.size ka.size) hk6.size, (HJ.out.keeps.trans ka).step hk6 (fun g hg => .inr (by have h1 : M <= g := HJ.out.parts.2 g hg; have := HM.out.2; omega))⟩
       clear ho6 hk6 hf6 ka hM6
       go_wp2_with fail
       go_roundw
       case rel => exact ⟨_, _, rfl, HN.out⟩
       case measure => exact HMs.out
      ·have HE3 : Hid (be = fe) := Lib.hid (by have := HEf.out; rw [if_pos hbe] at this; exact this)
       have hbe' : (be != 0) = true := by simpa using hbe
       have HBe := Lib.hid hbe
       have HE4 : Hid (be = E) := Lib.hid (by
        have h1 := HEr.out
        rw [<- HE3.out, if_pos hbe] at h1
        exact h1)
       clear hbe HEf
       go_wp2_with (first | (go_at_call 29; go_loud (refine (hF1.out _).mono ?_); rintro e w3 ⟨rfl, rfl⟩) | (go_at_call 30; go_loud (refine HBs.out.mono ?_); rintro e w4 ⟨rfl, hk4⟩; have HK4 := Lib.hid hk4; clear hk4))
       go_ret2
       refine PartsTo.no (HJ.out.keeps.trans HK4.out) ?_ ?_
       ·rw [hws', HE.out, <- HE4.out]
        exact HBe.out
       ·rw [hws', HE.out, <- HE4.out]
        rfl
   ·obtain rfl : k = (ownN l l.length).length := by omega
    have hlen : (datsP l).length = (ownN l l.length).length := by unfold datsP; rw [List.length_map]
    have hqe := hI.eq
    have her := hI.err
    rw [<- hlen, List.drop_length] at hqe her
    have HQe : Hid (old = all) := Lib.hid (by rw [<- hqe]; exact (List.append_nil _).symm)
    have HEr : Hid (0 = E) := Lib.hid her
    clear hI hlen hqe her
    go_wp2
    go_ret2
    refine PartsTo.yes HI.out.keeps (by rw [hws', HE.out, <- HEr.out]; simp) rfl ?_
    rw [hws', HAll.out, <- HQe.out]
    exact HI.out.parts.mono (fun g hg h => by have h1 : M <= g := h; have := HM.out.2; show w.heap.size <= g; omega)
theorem refAlone_any (i : Itm) (hp : i.p.size <= 1000000) (hd0 : i.dat.size <= 1000000) (w : World) : Calls Tryz.prog 26 #[i.v] w fun e w' => e = .returned (.int .i64 (shpE i)) ∧ Keeps NoB w w' := by
 have HP := Lib.hid (fun w1 : World => r2Plain_any i.p hp w1)
 have HR := Lib.hid (fun w1 : World => r2Right_any i.dat (by unfold maxLen; omega) w1)
 have HS : Hid (shpE i = if plainB i.p = false then 11 else if i.kind < 1 ∨ 3 < i.kind then 43 else if (i.mode < 0 ∨ 4095 < i.mode) ∨ (i.kind = 3 ∧ i.mode ≠ 511) then 10 else if (i.kind = 2 ∧ i.dat ≠ ⟨#[]⟩) ∨ (i.kind ≠ 1 ∧ i.same ≠ ⟨#[]⟩) then 43
  else if (i.kind = 1 ∧ 4194304 < i.dat.size) ∨ (i.kind = 3 ∧ 4095 < i.dat.size) then 18 else if i.kind = 3 ∧ rightB i.dat = false then 11 else 0) := Lib.hid rfl
 generalize shpE i = R at *
 obtain ⟨p, kind, mode, dat, same⟩ := i
 simp only at HP HR HS hp hd0
 generalize plainB p = pb at *
 generalize rightB dat = rb at *
 show Calls Tryz.prog 26 #[.agg #[.string p, .int .i64 kind, .int .i64 mode, .string dat, .string same]] w _
 have HK := Lib.hid ((Keeps.refl NoB w).alloc (.cells #[.string p, .int .i64 kind, .int .i64 mode, .string dat, .string same] 52))
 have HI := Lib.hid (Bk.new (Keeps.refl NoB (w.alloc (.cells #[.string p, .int .i64 kind, .int .i64 mode, .string dat, .string same] 52))))
 have hd : (dat = ⟨#[]⟩) ∨ (dat ≠ ⟨#[]⟩ ∧ (!dat.toList.isEmpty) = true ∧ dat.toList.isEmpty = false) := by
  rcases Decidable.em (dat = ⟨#[]⟩) with h | h
  ·exact .inl h
  ·exact .inr ⟨h, notEmpty_eq h, by simpa using notEmpty_eq h⟩
 have hsm : (same = ⟨#[]⟩) ∨ (same ≠ ⟨#[]⟩ ∧ (!same.toList.isEmpty) = true ∧ same.toList.isEmpty = false) := by
  rcases Decidable.em (same = ⟨#[]⟩) with h | h
  ·exact .inl h
  ·exact .inr ⟨h, notEmpty_eq h, by simpa using notEmpty_eq h⟩
 have hz1 : ¬ (4194304 : Int) < (dat.size : Int) := by omega
 have hz2 : ¬ 4194304 < dat.size := by omega
 clear hp
 cases pb with
 | false =>
   have HE := Lib.hid (HS.out.trans (if_pos rfl))
   clear hd hsm
   (go_enter Tryz.func26, Tryz.ntmps26; go_wp2_with (first | (go_at_call 43; go_loud (refine (HP.out _).mono ?_); rintro e w1 ⟨rfl, hk1⟩; have hb := HI.out.on hk1; have b0 := hb.cell 0 _ rfl; have b1 := hb.cell 1 _ rfl; have b2 := hb.cell 2 _ rfl; have b3 := hb.cell 3 _ rfl; have b4 := hb.cell 4 _ rfl; have bl := hb.lt) | (go_at_call 44; go_loud (refine (HR.out _).mono ?_); rintro e w2 ⟨rfl, rfl⟩)); go_ret; rw [HE.out]; exact ⟨rfl, HK.out.trans hk1⟩)
 | true =>
   have HS2 := Lib.hid (HS.out.trans (if_neg (by simp)))
   clear HS
   by_cases hk : kind < 1 ∨ 3 < kind
   ·have HE := Lib.hid (HS2.out.trans (if_pos hk))
    have hk' : kind < 1 ∨ (¬ kind < 1 ∧ 3 < kind) := by omega
    clear HS2 hk hd hsm
    rcases hk' with hk' | ⟨hk', hk''⟩
    ·(go_enter Tryz.func26, Tryz.ntmps26; go_wp2_with (first | (go_at_call 43; go_loud (refine (HP.out _).mono ?_); rintro e w1 ⟨rfl, hk1⟩; have hb := HI.out.on hk1; have b0 := hb.cell 0 _ rfl; have b1 := hb.cell 1 _ rfl; have b2 := hb.cell 2 _ rfl; have b3 := hb.cell 3 _ rfl; have b4 := hb.cell 4 _ rfl; have bl := hb.lt) | (go_at_call 44; go_loud (refine (HR.out _).mono ?_); rintro e w2 ⟨rfl, rfl⟩)); go_ret; rw [HE.out]; exact ⟨rfl, HK.out.trans hk1⟩)
    ·(go_enter Tryz.func26, Tryz.ntmps26; go_wp2_with (first | (go_at_call 43; go_loud (refine (HP.out _).mono ?_); rintro e w1 ⟨rfl, hk1⟩; have hb := HI.out.on hk1; have b0 := hb.cell 0 _ rfl; have b1 := hb.cell 1 _ rfl; have b2 := hb.cell 2 _ rfl; have b3 := hb.cell 3 _ rfl; have b4 := hb.cell 4 _ rfl; have bl := hb.lt) | (go_at_call 44; go_loud (refine (HR.out _).mono ?_); rintro e w2 ⟨rfl, rfl⟩)); go_ret; rw [HE.out]; exact ⟨rfl, HK.out.trans hk1⟩)
   ·have HS3 := Lib.hid (HS2.out.trans (if_neg hk))
    have hkk : kind = 1 ∨ kind = 2 ∨ kind = 3 := by omega
    clear HS2 hk
    by_cases hm : mode < 0 ∨ 4095 < mode
    ·have HE := Lib.hid (HS3.out.trans (if_pos (.inl hm)))
     have hm' : mode < 0 ∨ (¬ mode < 0 ∧ 4095 < mode) := by omega
     clear HS3 hm hd hsm
     rcases hm' with hm' | ⟨hm', hm''⟩ <;> rcases hkk with rfl | rfl | rfl
     all_goals (go_enter Tryz.func26, Tryz.ntmps26; go_wp2_with (first | (go_at_call 43; go_loud (refine (HP.out _).mono ?_); rintro e w1 ⟨rfl, hk1⟩; have hb := HI.out.on hk1; have b0 := hb.cell 0 _ rfl; have b1 := hb.cell 1 _ rfl; have b2 := hb.cell 2 _ rfl; have b3 := hb.cell 3 _ rfl; have b4 := hb.cell 4 _ rfl; have bl := hb.lt) | (go_at_call 44; go_loud (refine (HR.out _).mono ?_); rintro e w2 ⟨rfl, rfl⟩)); go_ret; rw [HE.out]; exact ⟨rfl, HK.out.trans hk1⟩)
    ·have hm1 : ¬ mode < 0 := fun h => hm (.inl h)
     have hm2 : ¬ 4095 < mode := fun h => hm (.inr h)
     rcases hkk with rfl | rfl | rfl
     ·have HE : Hid (R = 0) := Lib.hid (HS3.out.trans (by rw [if_neg (by intro h; rcases h with h | h; exact hm h; exact absurd h.1 (by decide)), if_neg (by simp), if_neg (by simpa using hz2), if_neg (by simp)]))
      clear HS3 hm hz2 hd hsm
      (go_enter Tryz.func26, Tryz.ntmps26; go_wp2_with (first | (go_at_call 43; go_loud (refine (HP.out _).mono ?_); rintro e w1 ⟨rfl, hk1⟩; have hb := HI.out.on hk1; have b0 := hb.cell 0 _ rfl; have b1 := hb.cell 1 _ rfl; have b2 := hb.cell 2 _ rfl; have b3 := hb.cell 3 _ rfl; have b4 := hb.cell 4 _ rfl; have bl := hb.lt) | (go_at_call 44; go_loud (refine (HR.out _).mono ?_); rintro e w2 ⟨rfl, rfl⟩)); go_ret; rw [HE.out]; exact ⟨rfl, HK.out.trans hk1⟩)
     ·have HS4 := HS3.out.trans (if_neg (by intro h; rcases h with h | h; exact hm h; exact absurd h.1 (by decide)))
      clear HS3 hm hz2
      rcases hd with rfl | ⟨d0, d1, d2⟩
      ·rcases hsm with rfl | ⟨s0, s1, s2⟩
       ·have HE : Hid (R = 0) := Lib.hid (HS4.trans (by rw [if_neg (by simp), if_neg (by simp), if_neg (by simp)]))
        clear HS4
        (go_enter Tryz.func26, Tryz.ntmps26; go_wp2_with (first | (go_at_call 43; go_loud (refine (HP.out _).mono ?_); rintro e w1 ⟨rfl, hk1⟩; have hb := HI.out.on hk1; have b0 := hb.cell 0 _ rfl; have b1 := hb.cell 1 _ rfl; have b2 := hb.cell 2 _ rfl; have b3 := hb.cell 3 _ rfl; have b4 := hb.cell 4 _ rfl; have bl := hb.lt) | (go_at_call 44; go_loud (refine (HR.out _).mono ?_); rintro e w2 ⟨rfl, rfl⟩)); go_ret; rw [HE.out]; exact ⟨rfl, HK.out.trans hk1⟩)
       ·have HE : Hid (R = 43) := Lib.hid (HS4.trans (if_pos (.inr ⟨by decide, s0⟩)))
        clear HS4 s0
        (go_enter Tryz.func26, Tryz.ntmps26; go_wp2_with (first | (go_at_call 43; go_loud (refine (HP.out _).mono ?_); rintro e w1 ⟨rfl, hk1⟩; have hb := HI.out.on hk1; have b0 := hb.cell 0 _ rfl; have b1 := hb.cell 1 _ rfl; have b2 := hb.cell 2 _ rfl; have b3 := hb.cell 3 _ rfl; have b4 := hb.cell 4 _ rfl; have bl := hb.lt) | (go_at_call 44; go_loud (refine (HR.out _).mono ?_); rintro e w2 ⟨rfl, rfl⟩)); go_ret; rw [HE.out]; exact ⟨rfl, HK.out.trans hk1⟩)
      ·have HE : Hid (R = 43) := Lib.hid (HS4.trans (if_pos (.inl ⟨rfl, d0⟩)))
       clear HS4 d0 hsm
       (go_enter Tryz.func26, Tryz.ntmps26; go_wp2_with (first | (go_at_call 43; go_loud (refine (HP.out _).mono ?_); rintro e w1 ⟨rfl, hk1⟩; have hb := HI.out.on hk1; have b0 := hb.cell 0 _ rfl; have b1 := hb.cell 1 _ rfl; have b2 := hb.cell 2 _ rfl; have b3 := hb.cell 3 _ rfl; have b4 := hb.cell 4 _ rfl; have bl := hb.lt) | (go_at_call 44; go_loud (refine (HR.out _).mono ?_); rintro e w2 ⟨rfl, rfl⟩)); go_ret; rw [HE.out]; exact ⟨rfl, HK.out.trans hk1⟩)
     ·by_cases h5 : mode = 511
      ·subst h5
       have HS4 := HS3.out.trans (if_neg (by intro h; rcases h with h | h; exact hm h; exact absurd rfl h.2))
       clear HS3 hm hm1 hm2 hd
       rcases hsm with rfl | ⟨s0, s1, s2⟩
       ·by_cases hz : 4095 < dat.size
        ·have hz' : (4095 : Int) < (dat.size : Int) := by omega
         have HE : Hid (R = 18) := Lib.hid (HS4.trans (by rw [if_neg (by simp), if_pos (.inr ⟨rfl, hz⟩)]))
         clear HS4 hz hz2
         (go_enter Tryz.func26, Tryz.ntmps26; go_wp2_with (first | (go_at_call 43; go_loud (refine (HP.out _).mono ?_); rintro e w1 ⟨rfl, hk1⟩; have hb := HI.out.on hk1; have b0 := hb.cell 0 _ rfl; have b1 := hb.cell 1 _ rfl; have b2 := hb.cell 2 _ rfl; have b3 := hb.cell 3 _ rfl; have b4 := hb.cell 4 _ rfl; have bl := hb.lt) | (go_at_call 44; go_loud (refine (HR.out _).mono ?_); rintro e w2 ⟨rfl, rfl⟩)); go_ret; rw [HE.out]; exact ⟨rfl, HK.out.trans hk1⟩)
        ·have hz' : ¬ (4095 : Int) < (dat.size : Int) := by omega
         have HE : Hid (R = if rb = false then 11 else 0) := Lib.hid (HS4.trans (by rw [if_neg (by simp), if_neg (by simpa using hz)]; simp))
         clear HS4 hz hz2
         cases rb
         ·have HE : Hid (R = 11) := HE
          (go_enter Tryz.func26, Tryz.ntmps26; go_wp2_with (first | (go_at_call 43; go_loud (refine (HP.out _).mono ?_); rintro e w1 ⟨rfl, hk1⟩; have hb := HI.out.on hk1; have b0 := hb.cell 0 _ rfl; have b1 := hb.cell 1 _ rfl; have b2 := hb.cell 2 _ rfl; have b3 := hb.cell 3 _ rfl; have b4 := hb.cell 4 _ rfl; have bl := hb.lt) | (go_at_call 44; go_loud (refine (HR.out _).mono ?_); rintro e w2 ⟨rfl, rfl⟩)); go_ret; rw [HE.out]; exact ⟨rfl, HK.out.trans hk1⟩)
         ·have HE : Hid (R = 0) := HE
          (go_enter Tryz.func26, Tryz.ntmps26; go_wp2_with (first | (go_at_call 43; go_loud (refine (HP.out _).mono ?_); rintro e w1 ⟨rfl, hk1⟩; have hb := HI.out.on hk1; have b0 := hb.cell 0 _ rfl; have b1 := hb.cell 1 _ rfl; have b2 := hb.cell 2 _ rfl; have b3 := hb.cell 3 _ rfl; have b4 := hb.cell 4 _ rfl; have bl := hb.lt) | (go_at_call 44; go_loud (refine (HR.out _).mono ?_); rintro e w2 ⟨rfl, rfl⟩)); go_ret; rw [HE.out]; exact ⟨rfl, HK.out.trans hk1⟩)
       ·have HE : Hid (R = 43) := Lib.hid (HS4.trans (if_pos (.inr ⟨by decide, s0⟩)))
        clear HS4 s0
        (go_enter Tryz.func26, Tryz.ntmps26; go_wp2_with (first | (go_at_call 43; go_loud (refine (HP.out _).mono ?_); rintro e w1 ⟨rfl, hk1⟩; have hb := HI.out.on hk1; have b0 := hb.cell 0 _ rfl; have b1 := hb.cell 1 _ rfl; have b2 := hb.cell 2 _ rfl; have b3 := hb.cell 3 _ rfl; have b4 := hb.cell 4 _ rfl; have bl := hb.lt) | (go_at_call 44; go_loud (refine (HR.out _).mono ?_); rintro e w2 ⟨rfl, rfl⟩)); go_ret; rw [HE.out]; exact ⟨rfl, HK.out.trans hk1⟩)
      ·have HE : Hid (R = 10) := Lib.hid (HS3.out.trans (if_pos (.inr ⟨rfl, h5⟩)))
       have h5' : (mode != 511) = true := by simpa using h5
       clear HS3 hm h5 hd hsm
       (go_enter Tryz.func26, Tryz.ntmps26; go_wp2_with (first | (go_at_call 43; go_loud (refine (HP.out _).mono ?_); rintro e w1 ⟨rfl, hk1⟩; have hb := HI.out.on hk1; have b0 := hb.cell 0 _ rfl; have b1 := hb.cell 1 _ rfl; have b2 := hb.cell 2 _ rfl; have b3 := hb.cell 3 _ rfl; have b4 := hb.cell 4 _ rfl; have bl := hb.lt) | (go_at_call 44; go_loud (refine (HR.out _).mono ?_); rintro e w2 ⟨rfl, rfl⟩)); go_ret; rw [HE.out]; exact ⟨rfl, HK.out.trans hk1⟩)
theorem SlAt.head {α : Type} {E : Enc α} {S : Nat -> Prop} {w : World} {p : Option Addr} {c : Nat} {l : List α} (h : SlAt E S w p c l) (k : Nat) (hk : k <= l.length) : SlAt E S w p c (l.take k) := by
 refine ⟨by rw [List.length_take]; have := h.cap; omega, h.max, h.nilc, h.spot, fun h0 => ?_⟩
 rw [List.length_take, Nat.min_eq_left hk] at h0
 obtain ⟨g, off, hp, hS, hg, hc⟩ := h.cells (by omega)
 refine ⟨g, off, hp, hS, hg, fun j hj => ?_⟩
 rw [List.length_take, Nat.min_eq_left hk] at hj
 have hkl : k * E.k <= l.length * E.k := Nat.mul_le_mul_right _ hk
 rw [hc j (by omega)]
 rw [E.flat_take, List.getElem?_take, if_pos hj]
theorem fnd_both (pre : List Itm) (s : ByteArray) : (fndN pre s = none ∧ fndI pre s = none) ∨ ∃ n y, fndN pre s = some n ∧ fndI pre s = some y ∧ pre[n]? = some y ∧ n < pre.length := by
 unfold fndN fndI
 rcases h : pre.findIdx? (fun y => decide (y.p = s)) with _ | n
 ·refine .inl ⟨h, ?_⟩
  rw [List.findIdx?_eq_none_iff] at h
  exact List.find?_eq_none.2 fun x hx => by rw [h x hx]; simp
 ·obtain ⟨h1, h2, h3⟩ := List.findIdx?_eq_some_iff_getElem.1 h
  refine .inr ⟨n, pre[n], h, ?_, List.getElem?_eq_getElem h1, h1⟩
  rw [List.find?_eq_some_iff_getElem]
  exact ⟨h2, n, h1, rfl, fun j hj => by simpa using h3 j hj⟩
theorem getLast_take {l : List Itm} {j : Nat} {y : Itm} (h : l[j]? = some y) : (l.take (j + 1)).getLast? = some y := by
 rw [List.take_add_one, h, List.getLast?_append]
 rfl
theorem refCheck_any (l : List Itm) (hl : ∀ i ∈ l, i.p.size <= 1000000 ∧ i.dat.size <= 1000000) (w : World) {S : Nat -> Prop} {p : Option Addr} {cp : Nat} (hS : SlAt encItm S w p cp l) :
 Calls Tryz.prog 11 #[.slice p l.length cp] w fun e w' => e = .returned (.tuple #[.int .i64 (ckE l).1, .int .i64 (ckE l).2]) ∧ Keeps NoB w w' := by
 rw [ckE_ref]
 have hcap := hS.cap
 have hmax := hS.max
 unfold maxLen at hmax
 have HS := Lib.hid hS
 have HL := Lib.hid hl
 clear hl hS
 by_cases h0 : l.length = 0
 ·rw [if_pos h0]
  go_enter Tryz.func11, Tryz.ntmps11
  go_wp2
  go_ret2
  exact ⟨rfl, Keeps.refl _ _⟩
 ·rw [if_neg h0]
  have h0' : ¬ (l.length : Int) = 0 := by omega
  by_cases h9 : 4096 < l.length
  ·rw [if_pos h9]
   have h9' : (4096 : Int) < (l.length : Int) := by omega
   go_enter Tryz.func11, Tryz.ntmps11
   go_wp2
   go_ret2
   exact ⟨rfl, Keeps.refl _ _⟩
  ·rw [if_neg h9]
   have h9' : ¬ (4096 : Int) < (l.length : Int) := by omega
   have hl2 : (l.length : Int) <= 4096 := by omega
   obtain ⟨R, hR⟩ : ∃ R, refGo [] 0 l = R := ⟨_, rfl⟩
   rw [hR]
   have HR := Lib.hid hR
   clear hR h0 h9
   go_enter Tryz.func11, Tryz.ntmps11
   go_upto_region 6 with fail
   go_loopw [4] (fun i wr => ∃ n : Nat, n <= l.length ∧ i = .int .i64 n ∧ Keeps NoB w wr ∧ Hid (R = refGo (l.take n) n (l.drop n))) (fun i _ => l.length + 1 - (intOf i).toNat)
   case atStart => exact ⟨0, Nat.zero_le _, rfl, Keeps.refl _ _, Lib.hid HR.out.symm⟩
   case round =>
    rename World => wr
    obtain ⟨n, hn, rfl, hkr, hR⟩ := hrel
    have HKr := Lib.hid hkr
    by_cases hlt : n < l.length
    ·obtain ⟨x, hx⟩ : ∃ x, l[n]? = some x := ⟨_, List.getElem?_eq_getElem hlt⟩
     have hR2 := hR.out
     rw [List.drop_eq_getElem_cons hlt, show l[n] = x from Option.some.inj ((List.getElem?_eq_getElem hlt).symm.trans hx)] at hR2
     have hR3 : R = if refAdd (l.take n) x ≠ 0 then (refAdd (l.take n) x, (n : Int)) else refGo (l.take n ++ [x]) (n + 1) (l.drop (n + 1)) := hR2
     rw [show l.take n ++ [x] = l.take (n + 1) by rw [List.take_add_one, hx]; rfl] at hR3
     obtain ⟨g, o, rfl, _, hgl, c0, c1, c2, c3, c4⟩ := HS.out.itm hx
     have hkc : ∀ (j : Nat) v, w.cell? ⟨g, j, none⟩ = some v -> wr.cell? ⟨g, j, none⟩ = some v := fun j v h => (hkr.cell (p := ⟨g, j, none⟩) hgl (fun h => h)).trans h
     have d0 := hkc _ _ c0
     have d1 := hkc _ _ c1
     have d2 := hkc _ _ c2
     have d3 := hkc _ _ c3
     have d4 := hkc _ _ c4
     have dl := lt_of_cell d0
     obtain ⟨hx6, hx7⟩ := HL.out x (List.mem_of_getElem? hx)
     have HAl := Lib.hid (fun w1 : World => refAlone_any x hx6 hx7 w1)
     have HUp := Lib.hid (fun w1 : World => (refUp_any x.p hx6 w1).mono (fun e w' h => (⟨h.1, by rw [<- h.2]; exact Keeps.refl _ _⟩ : e = .returned (.string (upR x.p)) ∧ Keeps NoB w1 w')))
     have hpl : shpE x = 0 -> True := fun _ => trivial
     have HRA : Hid (refAdd (l.take n) x = if shpE x ≠ 0 then shpE x
      else if (match (l.take n).getLast? with | some y => bLt y.p x.p | none => true) = false then 13
      else if upR x.p ≠ ⟨#[]⟩ ∧ (match fndI (l.take n) (upR x.p) with | none => true | some y => decide (y.kind ≠ 2)) = true then 14
      else if x.same ≠ ⟨#[]⟩ ∧ (match fndI (l.take n) x.same with | none => true | some y => decide (y.kind ≠ 1 ∨ y.same ≠ ⟨#[]⟩ ∨ y.mode ≠ x.mode ∨ x.dat ≠ ⟨#[]⟩)) = true then 22
      else 0) := Lib.hid rfl
     have HR3 := Lib.hid hR3
     have HX := Lib.hid hx
     generalize refAdd (l.take n) x = E at *
     generalize shpE x = sh at *
     obtain ⟨u, hu⟩ : ∃ u, upR x.p = u := ⟨_, rfl⟩
     rw [hu] at HUp HRA
     obtain ⟨xp, xk, xm, xd, xs⟩ := x
     simp only at d0 d1 d2 d3 d4 HUp HRA
     have HAl : Hid (∀ w1 : World, Calls Tryz.prog 26 #[.agg #[.string xp, .int .i64 xk, .int .i64 xm, .string xd, .string xs]] w1 fun e w' => e = .returned (.int .i64 sh) ∧ Keeps NoB w1 w') := HAl
     have hka : Keeps NoB wr (wr.alloc (.cells #[.string xp, .int .i64 xk, .int .i64 xm, .string xd, .string xs] 52)) := (Keeps.refl _ _).alloc _
     have HI := Lib.hid (Bk.new (Keeps.refl NoB (wr.alloc (.cells #[.string xp, .int .i64 xk, .int .i64 xm, .string xd, .string xs] 52))))
     have HKa := Lib.hid (hkr.trans hka)
     clear c0 c1 c2 c3 c4 hR hR2 hR3 hx hu hx6 hx7 hpl hka hkr hkc
     by_cases hsh : sh = 0
     ·subst hsh
      have HRA2 := Lib.hid (HRA.out.trans (if_neg (by simp)))
      clear HRA
      go_upto_region 12 with ((go_at_call 26; go_loud (refine (HAl.out _).mono ?_); rintro e w1 ⟨rfl, hk1⟩; have HK1 := Lib.hid hk1; clear hk1))
      have HK2 := Lib.hid (HKa.out.trans HK1.out)
      have hb1 := HI.out.on HK1.out
      have HB1 := Lib.hid hb1
      have HS1 := Lib.hid (HS.out.keepN HK2.out)
      have i0 := hb1.cell 0 _ rfl
      have i1 := hb1.cell 1 _ rfl
      have i2 := hb1.cell 2 _ rfl
      have i3 := hb1.cell 3 _ rfl
      have i4 := hb1.cell 4 _ rfl
      have il := hb1.lt
      clear hb1 d0 d1 d2 d3 d4 dl
      have hgl1 : g < w1.heap.size := Nat.lt_of_lt_of_le hgl HK2.out.size
      have hcase : ((n = 0 ∧ ¬ (0 : Int) < (n : Int)) ∧ (l.take n).getLast? = none) ∨ ∃ (m : Nat) (y : Itm), ((n = m + 1 ∧ (0 : Int) < (n : Int)) ∧ ((n : Int) - 1 = (m : Int) ∧ (m : Int) < (l.length : Int))) ∧ l[m]? = some y ∧ (l.take n).getLast? = some y := by
       rcases n with _ | m
       ·exact .inl ⟨⟨rfl, by omega⟩, rfl⟩
       ·obtain ⟨y, hy⟩ : ∃ y, l[m]? = some y := ⟨_, List.getElem?_eq_getElem (by omega)⟩
        exact .inr ⟨m, y, ⟨⟨rfl, by omega⟩, by omega, by omega⟩, hy, getLast_take hy⟩
      have hpre : (∃ (m : Nat) (y : Itm), ((0 : Int) < (n : Int) ∧ (n : Int) - 1 = (m : Int) ∧ (m : Int) < (l.length : Int)) ∧ l[m]? = some y ∧ (l.take n).getLast? = some y ∧ bLt y.p xp = false) ∨
       ((¬ (0 : Int) < (n : Int)) ∧ Hid ((match (l.take n).getLast? with | some y => bLt y.p xp | none => true) = true)) ∨
       (∃ (m : Nat) (y : Itm), ((0 : Int) < (n : Int) ∧ (n : Int) - 1 = (m : Int) ∧ (m : Int) < (l.length : Int)) ∧ l[m]? = some y ∧ bLt y.p xp = true ∧ Hid ((match (l.take n).getLast? with | some y => bLt y.p xp | none => true) = true)) := by
       rcases hcase with ⟨⟨_, h1⟩, h2⟩ | ⟨m, y, ⟨⟨_, h1⟩, h2, h3⟩, h4, h5⟩
       ·exact .inr (.inl ⟨h1, Lib.hid (by rw [h2])⟩)
       ·rcases hb : bLt y.p xp with _ | _
        ·exact .inl ⟨m, y, ⟨h1, h2, h3⟩, h4, h5, hb⟩
        ·exact .inr (.inr ⟨m, y, ⟨h1, h2, h3⟩, h4, hb, Lib.hid (by rw [h5]; exact hb)⟩)
      clear hcase
      have hn4 : (n : Int) <= 4096 := by omega
      rcases hpre with ⟨m, y, ⟨g1, g2, g3⟩, hy, hgl5, hbl⟩ | hgood
      ·have HE : Hid (R = (13, (n : Int))) := Lib.hid (by
        have hE : E = 13 := HRA2.out.trans (if_pos (by rw [hgl5]; exact hbl))
        rw [HR3.out, hE, if_pos (by decide)])
       have hle : (Op.bytesLess xp.toList y.p.toList = true) ∨ (Op.bytesLess xp.toList y.p.toList = false ∧ (xp.toList == y.p.toList) = true) := by
        rw [less_eq]
        rcases h : bLt xp y.p with _ | _
        ·exact .inr ⟨rfl, by rw [bLt_total h hbl]; simp⟩
        ·exact .inl rfl
       obtain ⟨g', o', he', _, _, y0, _⟩ := HS1.out.itm hy
       cases he'
       obtain ⟨yp, yk, ym, yd, ys⟩ := y
       simp only at y0 hle
       clear hgl5 hbl hy HR3 HRA2
       have gb : decide (0 < n) = true := decide_eq_true (by omega)
       rcases hle with hle | ⟨hle, hle2⟩
       all_goals
        go_quiet (fail)
        go_wp2
        go_ret2
        rw [HE.out]
        exact ⟨rfl, HK2.out.drewN _⟩
      ·have HRA3 : Hid (E = if u ≠ ⟨#[]⟩ ∧ (match fndI (l.take n) u with | none => true | some y => decide (y.kind ≠ 2)) = true then 14
        else if xs ≠ ⟨#[]⟩ ∧ (match fndI (l.take n) xs with | none => true | some y => decide (y.kind ≠ 1 ∨ y.same ≠ ⟨#[]⟩ ∨ y.mode ≠ xm ∨ xd ≠ ⟨#[]⟩)) = true then 22 else 0) := Lib.hid (by
        rcases hgood with ⟨_, hok⟩ | ⟨_, _, _, _, _, hok⟩
        ·exact HRA2.out.trans (if_neg (by rw [hok.out]; decide))
        ·exact HRA2.out.trans (if_neg (by rw [hok.out]; decide)))
       have htl : (l.take n).length = n := by rw [List.length_take]; omega
       have hsl := fun wx => run_slice_h (P := Tryz.prog) 27 52 Tryz.underlying27 (by kernel_rfl) g o l.length cp n (by omega) wx (by omega)
       have HF := Lib.hid (fun (s : ByteArray) (wx : World) (hk : Keeps NoB w wx) => refFind_any (l.take n) s wx ((HS.out.keepN hk).head n hn))
       rw [htl] at HF
       have HTl := Lib.hid htl
       clear HRA2 htl
       go_cut [44] from 32 to 44 (fun b wx => b = .bool false ∧ Keeps NoB w1 wx)
       case first =>
        rcases hgood with ⟨g1, hok⟩ | ⟨m, y, ⟨g1, g2, g3⟩, hy, hbl, hok⟩ <;> clear hok
        ·have gb : decide (0 < n) = false := decide_eq_false (by omega)
         go_quiet (fail)
         go_wp2_with fail
         go_meet
         exact ⟨rfl, (Keeps.refl _ _).drewN _⟩
        ·obtain ⟨g', o', he', _, _, y0, _⟩ := HS1.out.itm hy
         cases he'
         obtain ⟨yp, yk, ym, yd, ys⟩ := y
         have hle : Op.bytesLess xp.toList yp.toList = false := by rw [less_eq]; exact bLt_asymm hbl
         have hle2 : (xp.toList == yp.toList) = false := by
          rw [str_eq, decide_eq_false_iff_not]
          intro h
          rw [h] at hbl
          have hbl' : bLt yp yp = true := hbl
          rw [bLt_irrefl] at hbl'
          cases hbl'
         simp only at y0
         have gb : decide (0 < n) = true := decide_eq_true (by omega)
         clear hy hbl
         go_quiet (fail)
         go_wp2_with fail
         go_meet
         exact ⟨rfl, (Keeps.refl _ _).drewN _⟩
       case rest =>
        obtain ⟨rfl, hkc⟩ := hcut
        have HKc := Lib.hid (HK2.out.trans hkc)
        have HBc := Lib.hid (HB1.out.on hkc)
        clear hgood HK1 HB1 HS1 HK2 hkc i0 i1 i2 i3 i4 il hgl1
        have i0 := HBc.out.cell 0 _ rfl
        have il := HBc.out.lt
        obtain ⟨bu, hbu⟩ : ∃ bu, (!u.toList.isEmpty) = bu := ⟨_, rfl⟩
        go_upto_if 50 with ((go_at_call 27; go_loud (refine (HUp.out _).mono ?_); rintro e w5 ⟨rfl, hk5⟩; have HK5 := Lib.hid (HKc.out.trans hk5); have HB5 := Lib.hid (HBc.out.on hk5)))
        clear hk5
        clear i0 il
        have i0 := HB5.out.cell 0 _ rfl
        have i1 := HB5.out.cell 1 _ rfl
        have i2 := HB5.out.cell 2 _ rfl
        have i3 := HB5.out.cell 3 _ rfl
        have i4 := HB5.out.cell 4 _ rfl
        have il := HB5.out.lt
        have HFu := Lib.hid (HF.out u w5 HK5.out)
        have HS5 := Lib.hid (HS.out.keepN HK5.out)
        have hdec : (u ≠ ⟨#[]⟩ ∧ Hid (E = 14) ∧ fndN (l.take n) u = none) ∨ (∃ (j : Nat) (yp : ByteArray) (yk ym : Int) (yd ys : ByteArray), u ≠ ⟨#[]⟩ ∧ Hid (E = 14) ∧ fndN (l.take n) u = some j ∧ Hid (l[j]? = some ⟨yp, yk, ym, yd, ys⟩) ∧ (j : Int) < (l.length : Int) ∧ (yk != 2) = true) ∨
         (u = ⟨#[]⟩ ∧ Hid (E = if xs ≠ ⟨#[]⟩ ∧ (match fndI (l.take n) xs with | none => true | some y => decide (y.kind ≠ 1 ∨ y.same ≠ ⟨#[]⟩ ∨ y.mode ≠ xm ∨ xd ≠ ⟨#[]⟩)) = true then 22 else 0)) ∨
         (∃ (j : Nat) (yp : ByteArray) (ym : Int) (yd ys : ByteArray), u ≠ ⟨#[]⟩ ∧ fndN (l.take n) u = some j ∧ Hid (l[j]? = some ⟨yp, 2, ym, yd, ys⟩) ∧ (j : Int) < (l.length : Int) ∧ Hid (E = if xs ≠ ⟨#[]⟩ ∧ (match fndI (l.take n) xs with | none => true | some y => decide (y.kind ≠ 1 ∨ y.same ≠ ⟨#[]⟩ ∨ y.mode ≠ xm ∨ xd ≠ ⟨#[]⟩)) = true then 22 else 0)) := by
         by_cases hu : u = ⟨#[]⟩
         ·exact .inr (.inr (.inl ⟨hu, Lib.hid (HRA3.out.trans (if_neg (fun e => e.1 hu)))⟩))
         ·rcases fnd_both (l.take n) u with ⟨f1, f2⟩ | ⟨j, y, f1, f2, f3, f4⟩
          ·exact .inl ⟨hu, Lib.hid (HRA3.out.trans (if_pos ⟨hu, by rw [f2]⟩)), f1⟩
          ·have hjl : j < n := by rw [HTl.out] at f4; exact f4
           have hlj : l[j]? = some y := by rw [List.getElem?_take, if_pos hjl] at f3; exact f3
           obtain ⟨yp, yk, ym, yd, ys⟩ := y
           by_cases hk : yk = 2
           ·subst hk
            exact .inr (.inr (.inr ⟨j, yp, ym, yd, ys, hu, f1, Lib.hid hlj, by omega, Lib.hid (HRA3.out.trans (if_neg (fun e => by have := e.2; rw [f2] at this; simp at this)))⟩))
           ·exact .inr (.inl ⟨j, yp, yk, ym, yd, ys, hu, Lib.hid (HRA3.out.trans (if_pos ⟨hu, by rw [f2]; simpa using hk⟩)), f1, Lib.hid hlj, by omega, by simpa using hk⟩)
        clear HRA3
        go_cut [8] from 51 to 66 (fun _ wx => Keeps NoB w wx ∧ Bk wx wr.heap.size [.string xp, .int .i64 xk, .int .i64 xm, .string xd, .string xs] ∧ Hid (E = if xs ≠ ⟨#[]⟩ ∧ (match fndI (l.take n) xs with | none => true | some y => decide (y.kind ≠ 1 ∨ y.same ≠ ⟨#[]⟩ ∨ y.mode ≠ xm ∨ xd ≠ ⟨#[]⟩)) = true then 22 else 0))
        case first =>
         rcases hdec with ⟨hu, hE, f1⟩ | ⟨j, yp, yk, ym, yd, ys, hu, hE, f1, f3, hj, hk⟩ | ⟨hu, hE⟩ | ⟨j, yp, ym, yd, ys, hu, f1, f3, hj, hE⟩
         ·have HE : Hid (R = (14, (n : Int))) := Lib.hid (by rw [HR3.out, hE.out, if_pos (by decide)])
          have hun := notEmpty_eq hu
          obtain rfl : true = bu := hun.symm.trans hbu
          rw [f1] at HFu
          clear hu HR3 hE hbu
          go_wp2_with ((go_at_call 28; go_loud (refine HFu.out.mono ?_); rintro e w6 ⟨rfl, rfl⟩))
          go_ret2
          rw [HE.out]
          exact ⟨rfl, HK5.out⟩
         ·have HE : Hid (R = (14, (n : Int))) := Lib.hid (by rw [HR3.out, hE.out, if_pos (by decide)])
          have hun := notEmpty_eq hu
          obtain rfl : true = bu := hun.symm.trans hbu
          rw [f1] at HFu
          obtain ⟨g', o', he', _, hg', _, y1, _⟩ := HS5.out.itm f3.out
          cases he'
          simp only at y1
          clear hu HR3 hE hbu
          go_wp2_with ((go_at_call 28; go_loud (refine HFu.out.mono ?_); rintro e w6 ⟨rfl, rfl⟩))
          go_ret2
          rw [HE.out]
          exact ⟨rfl, HK5.out⟩
         ·subst hu
          obtain rfl : false = bu := by rw [<- hbu, empty_size]; rfl
          go_wp2
          go_meet
          exact ⟨HK5.out, HB5.out, hE⟩
         ·have hun := notEmpty_eq hu
          obtain rfl : true = bu := hun.symm.trans hbu
          rw [f1] at HFu
          obtain ⟨g', o', he', _, hg', _, y1, _⟩ := HS5.out.itm f3.out
          cases he'
          simp only at y1
          clear hu hbu
          go_wp2_with ((go_at_call 28; go_loud (refine HFu.out.mono ?_); rintro e w6 ⟨rfl, rfl⟩))
          go_meet
          exact ⟨HK5.out, HB5.out, hE⟩
        case rest =>
         obtain ⟨hk8, hb8, hE⟩ := hcut
         have HK8 := Lib.hid hk8
         have HB8 := Lib.hid hb8
         have HS8 := Lib.hid (HS.out.keepN hk8)
         clear hdec hbu HK5 HB5 HS5 HKc HBc i0 i1 i2 i3 i4 il hk8 hb8
         rename World => w8
         have i4 := HB8.out.cell 4 _ rfl
         have il := HB8.out.lt
         clear HFu
         have hdec2 : (xs = ⟨#[]⟩ ∧ Hid (E = 0)) ∨ (xs ≠ ⟨#[]⟩ ∧ Hid (E = 22) ∧ fndN (l.take n) xs = none) ∨
          (∃ (j : Nat) (yp : ByteArray) (yk ym : Int) (yd ys : ByteArray), xs ≠ ⟨#[]⟩ ∧ fndN (l.take n) xs = some j ∧ Hid (l[j]? = some ⟨yp, yk, ym, yd, ys⟩) ∧ (j : Int) < (l.length : Int) ∧
            ((Hid (E = 22) ∧ ((yk != 1) = true ∨ ((yk != 1) = false ∧ (ys.toList.isEmpty = false ∧ (!ys.toList.isEmpty) = true)) ∨ ((yk != 1) = false ∧ ys = ⟨#[]⟩ ∧ (ym != xm) = true) ∨ ((yk != 1) = false ∧ ys = ⟨#[]⟩ ∧ (ym != xm) = false ∧ (xd.toList.isEmpty = false ∧ (!xd.toList.isEmpty) = true)))) ∨
              (Hid (E = 0) ∧ (yk != 1) = false ∧ ys = ⟨#[]⟩ ∧ (ym != xm) = false ∧ xd = ⟨#[]⟩))) := by
          by_cases hs : xs = ⟨#[]⟩
          ·exact .inl ⟨hs, Lib.hid (hE.out.trans (if_neg (fun e => e.1 hs)))⟩
          ·rcases fnd_both (l.take n) xs with ⟨f1, f2⟩ | ⟨j, y, f1, f2, f3, f4⟩
           ·exact .inr (.inl ⟨hs, Lib.hid (hE.out.trans (if_pos ⟨hs, by rw [f2]⟩)), f1⟩)
           ·have hjl : j < n := by rw [HTl.out] at f4; exact f4
            have hlj : l[j]? = some y := by rw [List.getElem?_take, if_pos hjl] at f3; exact f3
            obtain ⟨yp, yk, ym, yd, ys⟩ := y
            have hE2 := hE.out
            rw [f2] at hE2
            simp only at hE2
            refine .inr (.inr ⟨j, yp, yk, ym, yd, ys, hs, f1, Lib.hid hlj, by omega, ?_⟩)
            by_cases k1 : yk = 1
            ·have kb : (yk != 1) = false := by simp [k1]
             by_cases k2 : ys = ⟨#[]⟩
             ·by_cases k3 : ym = xm
              ·have mb : (ym != xm) = false := by simp [k3]
               by_cases k4 : xd = ⟨#[]⟩
               ·exact .inr ⟨Lib.hid (hE2.trans (if_neg (fun e => by have := of_decide_eq_true e.2; rcases this with h | h | h | h; exact h k1; exact h k2; exact h k3; exact h k4))), kb, k2, mb, k4⟩
               ·exact .inl ⟨Lib.hid (hE2.trans (if_pos ⟨hs, decide_eq_true (.inr (.inr (.inr k4)))⟩)), .inr (.inr (.inr ⟨kb, k2, mb, by simpa using notEmpty_eq k4, notEmpty_eq k4⟩))⟩
              ·exact .inl ⟨Lib.hid (hE2.trans (if_pos ⟨hs, decide_eq_true (.inr (.inr (.inl k3)))⟩)), .inr (.inr (.inl ⟨kb, k2, by simpa using k3⟩))⟩
             ·exact .inl ⟨Lib.hid (hE2.trans (if_pos ⟨hs, decide_eq_true (.inr (.inl k2))⟩)), .inr (.inl ⟨kb, by simpa using notEmpty_eq k2, notEmpty_eq k2⟩)⟩
            ·exact .inl ⟨Lib.hid (hE2.trans (if_pos ⟨hs, decide_eq_true (.inl k1)⟩)), .inl (by simpa using k1)⟩
         clear hE
         rcases hdec2 with ⟨hs, hE⟩ | ⟨hs, hE, f1⟩ | ⟨j2, zp, zk, zm, zd, zs, hs, f1, f3, hj2, hrest⟩
         ·subst hs
          have HN : Hid (R = refGo (l.take (n + 1)) (n + 1) (l.drop (n + 1))) := Lib.hid (by rw [HR3.out, hE.out, if_neg (by simp)])
          clear HR3 hE
          go_wp2
          go_roundw
          case rel => exact ⟨n + 1, by omega, by go_num, HK8.out, HN.out⟩
          case measure => (simp [intOf]) <;> omega
         ·have HE : Hid (R = (22, (n : Int))) := Lib.hid (by rw [HR3.out, hE.out, if_pos (by decide)])
          have hun2 := notEmpty_eq hs
          have hue2 : xs.toList.isEmpty = false := by simpa using hun2
          clear hs HR3 hE
          (go_upto_region 20 with fail); (go_still_tail 5, (by kernel_rfl)); (change wpList _ _ _ _ _ w8.drew); (have kd : Keeps NoB w8 w8.drew := (Keeps.refl _ _).drew); (have HK7 := Lib.hid (HK8.out.trans kd)); (have hb7 := HB8.out.on kd); (have HS7 := Lib.hid (HS8.out.keepN kd)); (have HFs := Lib.hid (HF.out xs w8.drew HK7.out)); (clear kd i4 il); (generalize w8.drew = w7 at *); (have i0 := hb7.cell 0 _ rfl); (have i1 := hb7.cell 1 _ rfl); (have i2 := hb7.cell 2 _ rfl); (have i3 := hb7.cell 3 _ rfl); (have i4 := hb7.cell 4 _ rfl); (have il := hb7.lt); clear hb7
          rw [f1] at HFs
          go_upto_region 21 with ((go_at_call 28; go_loud (refine HFs.out.mono ?_); rintro e w6 ⟨rfl, rfl⟩))
          go_quiet (fail)
          go_wp2
          go_ret2
          rw [HE.out]
          exact ⟨rfl, HK7.out.drewN _⟩
         ·have hun2 := notEmpty_eq hs
          have hue2 : xs.toList.isEmpty = false := by simpa using hun2
          clear hs
          (go_upto_region 20 with fail); (go_still_tail 5, (by kernel_rfl)); (change wpList _ _ _ _ _ w8.drew); (have kd : Keeps NoB w8 w8.drew := (Keeps.refl _ _).drew); (have HK7 := Lib.hid (HK8.out.trans kd)); (have hb7 := HB8.out.on kd); (have HS7 := Lib.hid (HS8.out.keepN kd)); (have HFs := Lib.hid (HF.out xs w8.drew HK7.out)); (clear kd i4 il); (generalize w8.drew = w7 at *); (have i0 := hb7.cell 0 _ rfl); (have i1 := hb7.cell 1 _ rfl); (have i2 := hb7.cell 2 _ rfl); (have i3 := hb7.cell 3 _ rfl); (have i4 := hb7.cell 4 _ rfl); (have il := hb7.lt); clear hb7
          rw [f1] at HFs
          obtain ⟨g', o', he', _, hg7, z0, z1, z2, z3, z4⟩ := HS7.out.itm f3.out
          cases he'
          simp only at z0 z1 z2 z3 z4
          have hj0 : decide ((j2 : Int) < 0) = false := decide_eq_false (by omega)
          go_upto_region 21 with ((go_at_call 28; go_loud (refine HFs.out.mono ?_); rintro e w6 ⟨rfl, rfl⟩))
          rcases hrest with ⟨hE, hbad⟩ | ⟨hE, q1, rfl, q3, rfl⟩
          ·have HE : Hid (R = (22, (n : Int))) := Lib.hid (by rw [HR3.out, hE.out, if_pos (by decide)])
           clear HR3 hE
           rcases hbad with q1 | ⟨q1, q2, q2'⟩ | ⟨q1, rfl, q3⟩ | ⟨q1, rfl, q3, q4, q4'⟩
           all_goals
            go_big_region
            all_goals
             go_wp2
             go_ret2
             rw [HE.out]
             exact ⟨rfl, HK7.out.drew⟩
          ·have HN : Hid (R = refGo (l.take (n + 1)) (n + 1) (l.drop (n + 1))) := Lib.hid (by rw [HR3.out, hE.out, if_neg (by simp)])
           clear HR3 hE
           go_big_region
           all_goals
            go_wp2
            go_roundw
            case rel => exact ⟨n + 1, by omega, by go_num, HK7.out.drew, HN.out⟩
            case measure => (simp [intOf]) <;> omega
     ·have HE : Hid (R = (sh, (n : Int))) := Lib.hid (by
       have hE : E = sh := HRA.out.trans (if_pos (by simpa using hsh))
       rw [HR3.out, hE, if_pos (by simpa using hsh)])
      have hsb : (sh != 0) = true := by simpa using hsh
      clear HR3 HRA hsh
      go_wp2_with ((go_at_call 26; go_loud (refine (HAl.out _).mono ?_); rintro e w1 ⟨rfl, hk1⟩; have HK1 := Lib.hid hk1; clear hk1))
      go_ret2
      rw [HE.out]
      exact ⟨rfl, HKa.out.trans HK1.out⟩
    ·obtain rfl : n = l.length := by omega
     have hR2 := hR.out
     rw [List.drop_of_length_le (Nat.le_refl _)] at hR2
     have HR2 : Hid (R = (0, 0)) := Lib.hid hR2
     clear hR hR2 hkr
     go_wp2
     go_ret2
     rw [HR2.out]
     exact ⟨rfl, HKr.out⟩
end Go.Proofs.YtonkgdoaobojbaaGreatDoor
