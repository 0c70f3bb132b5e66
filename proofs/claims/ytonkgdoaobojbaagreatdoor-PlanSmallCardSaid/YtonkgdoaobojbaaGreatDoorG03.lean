/-
  Layer 9, plain: lines that are read again. No program in sight.
-/
import Derived.Test.YtonkgdoaobojbaaGreatDoorG01
import Derived.Test.YtonkgdoaobojbaaGreatDoorG02
import Derived.Deep.QuietTactic
import Derived.BigQuiet
import Derived.WalkLawsBesides

set_option linter.unusedSimpArgs false
set_option linter.unusedVariables false
set_option maxRecDepth 100000
set_option maxHeartbeats 4000000
namespace Go.Proofs.YtonkgdoaobojbaaGreatDoor
theorem bIdx_at {s : ByteArray} {c : UInt8} {x y : List UInt8} (h : s.data.toList = x ++ c :: y) (hx : ∀ b ∈ x, b ≠ c) : bIdx s c = (x.length : Int) := by
 have hz : s.size = x.length + 1 + y.length := by
  rw [<- len_data, h]; simp; omega
 have hat : ∀ (j : Nat) (hj : j < s.size), s.data.toList[j]? = some s[j] := fun j hj => by
  rw [List.getElem?_eq_getElem (by rw [len_data]; exact hj)]; rfl
 rcases bIdx_cases s c with h1 | ⟨o, h1⟩
 ·have := bIdx_none h1 x.length (by omega)
  have h2 := hat x.length (by omega)
  rw [h, List.getElem?_append_right (Nat.le_refl _), Nat.sub_self] at h2
  exact absurd (Option.some.inj h2).symm this
 ·obtain ⟨ho, h2, h3⟩ := bIdx_some h1
  rw [h1]
  rcases Nat.lt_trichotomy o x.length with hlt | heq | hgt
  ·have h4 := hat o ho
   rw [h, List.getElem?_append_left hlt, List.getElem?_eq_getElem hlt, h2] at h4
   exact absurd (Option.some.inj h4) (hx _ (List.getElem_mem hlt))
  ·rw [heq]
  ·have h4 := h3 x.length (by omega) hgt
   have h5 := hat x.length (by omega)
   rw [h, List.getElem?_append_right (Nat.le_refl _), Nat.sub_self] at h5
   exact absurd (Option.some.inj h5).symm h4
def uuBody (l : List UInt8) : List UInt8 := uuL l.length :: uuG l
theorem uuLine_eq (l : List UInt8) : uuLine l = uuBody l ++ [10] := rfl
theorem uuBody_low {l : List UInt8} (h : l.length < 64) : ∀ b ∈ uuBody l, 32 <= b.toNat ∧ b.toNat <= 96 ∧ b ≠ 10 := by
 intro b hb
 unfold uuBody at hb
 rcases List.mem_cons.1 hb with rfl | hb
 ·exact uuL_range ⟨_, h⟩
 ·exact uuG_low l b hb
theorem uuBody_len (l : List UInt8) : (uuBody l).length = (l.length + 2) / 3 * 4 + 1 := by
 unfold uuBody
 rw [List.length_cons, uuG_len]
theorem uuRest_cut (s : List UInt8) : ∃ y, uuRest s = uuBody (s.take 45) ++ 10 :: y ∧ (s = [] -> y = [101, 110, 100, 10]) ∧ (s ≠ [] -> y = uuRest (s.drop 45)) := by
 by_cases h : s = []
 ·subst h
  exact ⟨[101, 110, 100, 10], by rw [uuRest_nil]; rfl, fun _ => rfl, fun h => absurd rfl h⟩
 ·refine ⟨uuRest (s.drop 45), ?_, fun e => absurd e h, fun _ => rfl⟩
  rw [uuRest_step h, uuLine_eq, List.append_assoc]
  rfl
theorem uuD_take (l : List UInt8) {i : Nat} {a b c d : UInt8} (ha : l[i]? = some a) (hb : l[i + 1]? = some b) (hc : l[i + 2]? = some c) (hd : l[i + 3]? = some d) (hi : i % 4 = 0) :
 uuD (l.take (i + 4)) = uuD (l.take i) ++ [UInt8.ofNat (uuV a b c d / 65536), UInt8.ofNat (uuV a b c d / 256), UInt8.ofNat (uuV a b c d)] := by
 have h4 : l.take (i + 4) = l.take i ++ [a, b, c, d] := by
  rw [List.take_add_one (i := i + 3), List.take_add_one (i := i + 2), List.take_add_one (i := i + 1), List.take_add_one (i := i), ha, hb, hc, hd]
  simp
 have hlen : (l.take i).length % 4 = 0 := by
  have := (List.getElem?_eq_some_iff.1 ha).1
  rw [List.length_take, Nat.min_eq_left (by omega)]
  exact hi
 rw [h4]
 generalize l.take i = m at *
 clear h4
 induction hn : m.length using Nat.strongRecOn generalizing m with
 | ind n ih =>
   match m, hlen, hn with
   | [], _, _ => simp [uuD]
   | [_], h, _ => simp at h
   | [_, _], h, _ => simp at h
   | [_, _, _], h, _ => simp at h
   | x :: y :: z :: u :: r, h, hn =>
     show uuD (x :: y :: z :: u :: (r ++ [a, b, c, d])) = _
     rw [uuD, uuD, ih r.length (by rw [<- hn]; simp; omega) r (by simp only [List.length_cons] at h; omega) rfl]
     rfl
theorem uuB_lt (c : UInt8) : uuB c < 64 := Nat.mod_lt _ (by decide)
theorem uuV_lt (a b c d : UInt8) : uuV a b c d < 16777216 := by
 unfold uuV
 have := uuB_lt a; have := uuB_lt b; have := uuB_lt c; have := uuB_lt d
 omega
end Go.Proofs.YtonkgdoaobojbaaGreatDoor
set_option maxHeartbeats 8000000
namespace Go.Proofs.YtonkgdoaobojbaaGreatDoor
open Go Go.RowKit
def octC : Nat -> List Value
 | 0 => [.int .u8 0, .int .u8 0, .int .u8 0, .int .u8 0]
 | 1 => [.int .u8 0, .int .u8 0, .int .u8 0, .int .u8 48]
 | 2 => [.int .u8 0, .int .u8 0, .int .u8 48, .int .u8 48]
 | 3 => [.int .u8 0, .int .u8 54, .int .u8 48, .int .u8 48]
 | _ => [.int .u8 48, .int .u8 54, .int .u8 48, .int .u8 48]
theorem octal_384 (w : World) : Calls Tryz.prog 105 #[.int .i64 384] w fun e w' => e = .returned (.string ⟨#[48, 54, 48, 48]⟩) ∧ Keeps NoB w w' := by
 have hb0 : bits .and .i64 384 7 = 0 := by decide
 have hb1 : bits .and .i64 48 7 = 0 := by decide
 have hb2 : bits .and .i64 6 7 = 6 := by decide
 have hb3 : bits .and .i64 0 7 = 0 := by decide
 have hmk : (Instr.makeSlice 58 (.int .i64 4) (.int .i64 4)).run Tryz.prog w = .ok (.slice (some ⟨w.heap.size, 0, none⟩) 4 4) (w.alloc (.cells #[.int .u8 0, .int .u8 0, .int .u8 0, .int .u8 0] 5)) := by
  have h : (Tryz.prog.info? 5).map (fun i => (i.zero, i.size, i.bytes)) = some (some (Value.int .u8 0), 1, 1) := by kernel_rfl
  obtain ⟨i, hi, he⟩ := Option.map_eq_some_iff.1 h
  simp only [Prod.mk.injEq] at he
  obtain ⟨hz, hs, hb⟩ := he
  have := run_makeSlice w 58 5 i (.int .u8 0) Tryz.underlying58 hi hz .i64 .i64 4 4 (by decide) (by decide) (by rw [hs]; decide) (by rw [hb]; decide) (by decide)
  rw [hs, show madeCells (Value.int .u8 0).cells (Int.toNat 4 * 1) = #[.int .u8 0, .int .u8 0, .int .u8 0, .int .u8 0] from by kernel_rfl] at this
  exact this
 have HB := Lib.hid (Bk.new (Keeps.refl NoB (w.alloc (.cells #[.int .u8 0, .int .u8 0, .int .u8 0, .int .u8 0] 5))))
 have HK := Lib.hid ((Keeps.refl NoB w).alloc (.cells #[.int .u8 0, .int .u8 0, .int .u8 0, .int .u8 0] 5))
 go_enter Tryz.func105, Tryz.ntmps105
 go_upto_region 3 with fail
 clear hmk
 generalize w.alloc (.cells #[.int .u8 0, .int .u8 0, .int .u8 0, .int .u8 0] 5) = w1 at *
 go_loopw [8] (fun i wr => ∃ k : Nat, k <= 4 ∧ i = .int .i64 (k : Int) ∧ Bk wr w.heap.size (octC k) ∧ Keeps (fun g => g = w.heap.size) w1 wr) (fun i _ => 5 - (intOf i).toNat)
 case atStart => exact ⟨0, by omega, rfl, HB.out, Keeps.refl _ _⟩
 case round =>
  rename World => wr
  obtain ⟨k, hk, rfl, hb, hkr⟩ := hrel
  have HBr := Lib.hid hb
  have HKr := Lib.hid hkr
  have bf := hb.fz
  have bl := hb.lt
  clear hb hkr
  rcases (show k = 0 ∨ k = 1 ∨ k = 2 ∨ k = 3 ∨ k = 4 by omega) with rfl | rfl | rfl | rfl | rfl
  ·have c0 := HBr.out.cell 3 _ rfl
   have HB2 := Lib.hid (HBr.out.put 3 (.int .u8 48))
   have HK2 := Lib.hid (HKr.out.trans (kset wr ⟨w.heap.size, 3, none⟩ (.int .u8 48)))
   go_wp2
   go_roundw
   case rel => exact ⟨1, by omega, by go_num, HB2.out, HK2.out⟩
   case measure => simp [intOf]
  ·have c0 := HBr.out.cell 2 _ rfl
   have HB2 := Lib.hid (HBr.out.put 2 (.int .u8 48))
   have HK2 := Lib.hid (HKr.out.trans (kset wr ⟨w.heap.size, 2, none⟩ (.int .u8 48)))
   go_wp2
   go_roundw
   case rel => exact ⟨2, by omega, by go_num, HB2.out, HK2.out⟩
   case measure => simp [intOf]
  ·have c0 := HBr.out.cell 1 _ rfl
   have HB2 := Lib.hid (HBr.out.put 1 (.int .u8 54))
   have HK2 := Lib.hid (HKr.out.trans (kset wr ⟨w.heap.size, 1, none⟩ (.int .u8 54)))
   go_wp2
   go_roundw
   case rel => exact ⟨3, by omega, by go_num, HB2.out, HK2.out⟩
   case measure => simp [intOf]
  ·have c0 := HBr.out.cell 0 _ rfl
   have HB2 := Lib.hid (HBr.out.put 0 (.int .u8 48))
   have HK2 := Lib.hid (HKr.out.trans (kset wr ⟨w.heap.size, 0, none⟩ (.int .u8 48)))
   go_wp2
   go_roundw
   case rel => exact ⟨4, by omega, by go_num, HB2.out, HK2.out⟩
   case measure => simp [intOf]
  ·have hcv := run_convert_bytes_back (P := Tryz.prog) wr 58 9 5 ⟨w.heap.size, 0, none⟩ 4 [48, 54, 48, 48] Tryz.underlying58 Tryz.underlying5 Tryz.underlying9 (fun j hj => by
    rw [add_lit, Nat.zero_add]
    match j, hj with
    | 0, _ => exact HBr.out.cell 0 _ rfl
    | 1, _ => exact HBr.out.cell 1 _ rfl
    | 2, _ => exact HBr.out.cell 2 _ rfl
    | 3, _ => exact HBr.out.cell 3 _ rfl
    | j + 4, hj => exact absurd hj (by simp))
   simp only [List.length_cons, List.length_nil, Nat.zero_add, Nat.reduceAdd] at hcv
   go_wp2
   go_ret
   exact ⟨rfl, (HK.out.of_none (F := NoB)).step HKr.out (fun g hg => .inr (by rw [hg]; exact Nat.le_refl _))⟩
theorem right_384 (w : World) : Calls Tryz.prog 94 #[.int .i64 384] w fun e w' => e = .returned (.bool true) ∧ w = w' := by
 go_enter Tryz.func94, Tryz.ntmps94
 go_wp2
 go_ret
 exact ⟨rfl, rfl⟩
theorem pathRight_x (w : World) : Calls Tryz.prog 81 #[.string ⟨#[120]⟩] w fun e w' => e = .returned (.bool true) ∧ w = w' := by
 have HI := Lib.hid (fun wx => ib_any ⟨#[120]⟩ 0 wx)
 rw [show bIdx (⟨#[120]⟩ : ByteArray) ((0 : Int)).toNat.toUInt8 = -1 by decide] at HI
 go_enter Tryz.func81, Tryz.ntmps81
 go_wp2_with (go_at_call 104; go_loud (refine (HI.out _).mono ?_); rintro e w3 ⟨rfl, rfl⟩)
 go_ret
 exact ⟨rfl, rfl⟩
def encB (l : List UInt8) : List UInt8 := [98, 101, 103, 105, 110, 32, 54, 48, 48, 32, 120, 10] ++ uuRest l
theorem uuSize_le (n : Nat) : uuSize n <= 2 * n + 100 := by
 unfold uuSize
 split <;> omega
theorem encB_len (l : List UInt8) : (encB l).length <= 2 * l.length + 200 := by
 unfold encB
 rw [List.length_append, uuRest_len]
 have := uuSize_le l.length
 show 12 + _ <= _
 omega
theorem enc_any (s : ByteArray) (hs : s.size <= 1000000) (w : World) :
 Calls Tryz.prog 70 #[.int .i64 384, .string ⟨#[120]⟩, .string s] w fun e w' => e = .returned (.tuple #[.string ⟨(encB s.data.toList).toArray⟩, .int .i64 0]) ∧ Keeps NoB w w' := by
 obtain ⟨l, hl⟩ : ∃ l, s.data.toList = l := ⟨_, rfl⟩
 have hz : l.length <= 1000000 := by rw [<- hl, len_data]; exact hs
 have HEl := Lib.hid (encB_len l)
 rw [hl]
 have HR := Lib.hid (fun w1 : World => right_384 w1)
 have HP := Lib.hid (fun w1 : World => pathRight_x w1)
 have HI := Lib.hid (fun wx => ib_any ⟨#[120]⟩ 10 wx)
 rw [show bIdx (⟨#[120]⟩ : ByteArray) ((10 : Int)).toNat.toUInt8 = -1 by decide] at HI
 have HO := Lib.hid (fun w1 : World => octal_384 w1)
 have HB0 := Lib.hid (BA.new (S := fun g => w.heap.size < g) w (Nat.lt_irrefl _))
 have HK0 := Lib.hid ((Keeps.refl NoB w).alloc (.cells #[.pointer none, .slice none 0 0] 98))
 have HL : Hid (s.data.toList = l) := hl
 have hex : (⟨#[48, 54, 48, 48]⟩ : ByteArray).extract 1 4 = ⟨#[54, 48, 48]⟩ := by decide
 clear hl
 go_enter Tryz.func70, Tryz.ntmps70
 go_upto_region 7 with (first | (go_at_call 94; go_loud (refine (HR.out _).mono ?_); rintro e w1 ⟨rfl, rfl⟩) | (go_at_call 81; go_loud (refine (HP.out _).mono ?_); rintro e w1 ⟨rfl, rfl⟩) | (go_at_call 104; go_loud (refine (HI.out _).mono ?_); rintro e w3 ⟨rfl, rfl⟩) | (go_at_call 105; go_loud (refine (HO.out _).mono ?_); rintro e w4 ⟨rfl, hk4⟩; have HB4 := Lib.hid (HB0.out.on hk4); have HK4 := Lib.hid (HK0.out.trans hk4)) | (go_at_call 53; go_loud (refine (sbWriteString_any HB4.out (fun g hg => by have h1 := HB4.out.lt; show w.heap.size < g; omega) _ (by simp [ByteArray.size]; try omega)).mono ?_); rintro e w5 ⟨rfl, hb5, hk5⟩; have HB5 := Lib.hid hb5; have HK5 := Lib.hid (HK4.out.step hk5 (fun g hg => .inr (by rcases hg with h | h <;> omega)))))
 have HM5 : Hid (w.heap.size < w5.heap.size) := HB5.out.lt
 clear HR HP HI HO HB0 HK0 HB4 HK4 hex hk4 hk5 hb5
 go_loopw [2, 9] (fun x _ wr => ∃ (r : ByteArray) (dn : List UInt8), x = .string r ∧ dn ++ uuRest r.data.toList = encB l ∧ BA (fun g => w.heap.size < g) wr w.heap.size dn ∧ Keeps NoB w wr ∧ w.heap.size < wr.heap.size) (fun x _ _ => match x with | .string r => r.size | _ => 0)
 case atStart => exact ⟨s, _, rfl, by rw [HL.out]; rfl, HB5.out, HK5.out, HM5.out⟩
 case round =>
  rename World => wr
  obtain ⟨r, dn, rfl, heq, hba, hkr, hmr⟩ := hrel
  have HE := Lib.hid heq
  have HB := Lib.hid hba
  have HK := Lib.hid hkr
  have HM := Lib.hid hmr
  have hlen : dn.length + (uuRest r.data.toList).length <= 2000300 := by
   have h1 := congrArg List.length heq
   rw [List.length_append] at h1
   have h2 := HEl.out
   omega
  have HLen := Lib.hid hlen
  have hrz : r.size <= 100000000 := by
   have h3 := uuRest_len r.data.toList
   rw [len_data] at h3
   unfold uuSize at h3
   split at h3 <;> omega
  clear heq hba hkr hmr hlen
  by_cases h0 : r.size = 0
  ·obtain rfl : r = ⟨#[]⟩ := ba_eq (List.length_eq_zero_iff.1 (by rw [len_data]; exact h0))
   have HLn := Lib.hid (fun w1 : World => uuline_any ⟨#[]⟩ (by decide) w1)
   have HE2 : Hid (dn ++ [96, 10, 101, 110, 100, 10] = encB l) := Lib.hid (by rw [<- HE.out]; rw [show uuRest ((⟨#[]⟩ : ByteArray).data.toList) = [96, 10, 101, 110, 100, 10] from uuRest_nil])
   go_wp2_with (first | (go_at_call 106; go_loud (refine (HLn.out _).mono ?_); rintro e w6 ⟨rfl, hk6⟩; have HB6 := Lib.hid (HB.out.on hk6); have HK6 := Lib.hid (HK.out.trans hk6); have HM6 : Hid (w.heap.size < w6.heap.size) := HB6.out.lt) | (go_at_call 53; refine (sbWriteString_any HB6.out (fun g hg => by have h1 := HK6.out.size; have h2 := HM.out; have h3 := HM6.out; show w.heap.size < g; omega) _ ?_).mono ?_; (focus (have h4 := HLen.out; rw [show (uuRest ((⟨#[]⟩ : ByteArray).data.toList)) = [96, 10, 101, 110, 100, 10] from uuRest_nil] at h4; show dn.length + 6 <= 4294967296; simp only [List.length_cons, List.length_nil] at h4; omega)); rintro e w7 ⟨rfl, hb7, hk7⟩; have HB7 := Lib.hid hb7; have HM7 : Hid (w.heap.size < w7.heap.size) := HB7.out.lt; have HK7 := Lib.hid (HK6.out.step hk7 (fun g hg => .inr (by rcases hg with h | h <;> omega)))) | (go_at_call 54; go_loud (refine (sbString_any (B := w.heap.size) HB7.out (fun g hg => Nat.le_of_lt hg) (Nat.le_refl _) (Nat.le_of_lt HM7.out)).mono ?_); rintro e w8 ⟨rfl, hk8⟩))
   go_ret2
   refine ⟨?_, HK7.out.step hk8 (fun g hg => .inr hg)⟩
   rw [<- HE2.out]
   rfl
  by_cases h45 : r.size <= 45
  ·have h45' : ¬ (45 : Int) < (r.size : Int) := by omega
   have hmin : min (r.size : Int) 45 = (r.size : Int) := by omega
   obtain ⟨x, hx⟩ : ∃ x, r.extract 0 r.size = x := ⟨_, rfl⟩
   obtain ⟨y, hy⟩ : ∃ y, r.extract r.size r.size = y := ⟨_, rfl⟩
   have hxs : x.size <= 45 := by rw [<- hx, ByteArray.size_extract]; omega
   have hxd : x.data.toList = r.data.toList.take 45 := by
    rw [<- hx, data_extract, List.drop_zero]
    rw [List.take_of_length_le (by rw [len_data]; exact Nat.le_refl _), List.take_of_length_le (by rw [len_data]; exact h45)]
   have hyd : y.data.toList = r.data.toList.drop 45 := by
    rw [<- hy, data_extract, List.take_of_length_le (by rw [len_data]; exact Nat.le_refl _)]
    rw [List.drop_of_length_le (by rw [len_data]; exact Nat.le_refl _), List.drop_of_length_le (by rw [len_data]; exact h45)]
   have hys : y.size < r.size := by rw [<- hy, ByteArray.size_extract]; omega
   have HY := Lib.hid hys
   have hne : r.data.toList ≠ [] := fun e => h0 (by rw [<- len_data, e]; rfl)
   have HE2 : Hid ((dn ++ uuLine x.data.toList) ++ uuRest y.data.toList = encB l) := Lib.hid (by rw [<- HE.out, uuRest_step hne, hxd, hyd, List.append_assoc])
   have HLn := Lib.hid (fun w1 : World => uuline_any x hxs w1)
   have hul : (uuLine x.data.toList).length <= 70 := by rw [uuLine_len, len_data]; omega
   have HUl := Lib.hid hul
   have hr0 : r.toList.isEmpty = false := by
    rw [Lib.toList_data]
    rcases h : r.data.toList with _ | _
    ·exact absurd h hne
    ·rfl
   have hy0 : y = ByteArray.empty := ba_eq (by rw [hyd, List.drop_of_length_le (by rw [len_data]; exact h45)]; rfl)
   clear hxd hyd hys hul hne
   clear hy
   subst hy0
   go_wp2_with (first | (go_at_call 106; go_loud (refine (HLn.out _).mono ?_); rintro e w6 ⟨rfl, hk6⟩; have HB6 := Lib.hid (HB.out.on hk6); have HK6 := Lib.hid (HK.out.trans hk6); have HM6 : Hid (w.heap.size < w6.heap.size) := HB6.out.lt) | (go_at_call 53; refine (sbWriteString_any HB6.out (fun g hg => by have h1 := HK6.out.size; have h2 := HM.out; have h3 := HM6.out; show w.heap.size < g; omega) _ ?_).mono ?_; (focus (have h4 := HLen.out; have h5 := HUl.out; show dn.length + (uuLine x.data.toList).toArray.size <= 4294967296; rw [List.size_toArray]; omega)); rintro e w7 ⟨rfl, hb7, hk7⟩; have HB7 := Lib.hid hb7; have HM7 : Hid (w.heap.size < w7.heap.size) := HB7.out.lt; have HK7 := Lib.hid (HK6.out.step hk7 (fun g hg => .inr (by rcases hg with h | h <;> omega)))))
   go_roundw
   case rel => exact ⟨_, _, rfl, HE2.out, HB7.out, HK7.out, HM7.out⟩
   case measure => exact HY.out
  ·have h45' : (45 : Int) < (r.size : Int) := by omega
   have hmin : min (r.size : Int) 45 = 45 := by omega
   obtain ⟨x, hx⟩ : ∃ x, r.extract 0 45 = x := ⟨_, rfl⟩
   obtain ⟨y, hy⟩ : ∃ y, r.extract 45 r.size = y := ⟨_, rfl⟩
   have hxs : x.size <= 45 := by rw [<- hx, ByteArray.size_extract]; omega
   have hxd : x.data.toList = r.data.toList.take 45 := by
    rw [<- hx, data_extract, List.drop_zero]
        
   have hyd : y.data.toList = r.data.toList.drop 45 := by
    rw [<- hy, data_extract, List.take_of_length_le (by rw [len_data]; exact Nat.le_refl _)]
        
   have hys : y.size < r.size := by rw [<- hy, ByteArray.size_extract]; omega
   have HY := Lib.hid hys
   have hne : r.data.toList ≠ [] := fun e => h0 (by rw [<- len_data, e]; rfl)
   have HE2 : Hid ((dn ++ uuLine x.data.toList) ++ uuRest y.data.toList = encB l) := Lib.hid (by rw [<- HE.out, uuRest_step hne, hxd, hyd, List.append_assoc])
   have HLn := Lib.hid (fun w1 : World => uuline_any x hxs w1)
   have hul : (uuLine x.data.toList).length <= 70 := by rw [uuLine_len, len_data]; omega
   have HUl := Lib.hid hul
   have hr0 : r.toList.isEmpty = false := by
    rw [Lib.toList_data]
    rcases h : r.data.toList with _ | _
    ·exact absurd h hne
    ·rfl
   clear hxd hyd hys hul hne
   go_wp2_with (first | (go_at_call 106; go_loud (refine (HLn.out _).mono ?_); rintro e w6 ⟨rfl, hk6⟩; have HB6 := Lib.hid (HB.out.on hk6); have HK6 := Lib.hid (HK.out.trans hk6); have HM6 : Hid (w.heap.size < w6.heap.size) := HB6.out.lt) | (go_at_call 53; refine (sbWriteString_any HB6.out (fun g hg => by have h1 := HK6.out.size; have h2 := HM.out; have h3 := HM6.out; show w.heap.size < g; omega) _ ?_).mono ?_; (focus (have h4 := HLen.out; have h5 := HUl.out; show dn.length + (uuLine x.data.toList).toArray.size <= 4294967296; rw [List.size_toArray]; omega)); rintro e w7 ⟨rfl, hb7, hk7⟩; have HB7 := Lib.hid hb7; have HM7 : Hid (w.heap.size < w7.heap.size) := HB7.out.lt; have HK7 := Lib.hid (HK6.out.step hk7 (fun g hg => .inr (by rcases hg with h | h <;> omega)))))
   go_roundw
   case rel => exact ⟨_, _, rfl, HE2.out, HB7.out, HK7.out, HM7.out⟩
   case measure => exact HY.out
theorem bits_any (c : UInt8) (h1 : 32 <= c.toNat) (h2 : c.toNat <= 96) (w : World) : Calls Tryz.prog 82 #[.int .u8 (c.toNat : Int)] w fun e w' => e = .returned (.tuple #[.int .u8 ((uuB c : Nat) : Int), .bool true]) ∧ w = w' := by
 have q1 : ¬ (c.toNat : Int) < 32 := by omega
 have q2 : ¬ 96 < (c.toNat : Int) := by omega
 have q3 : (32 : Int) <= (c.toNat : Int) := by omega
 have q4 : (c.toNat : Int) <= 96 := by omega
 have hb : ((uuB c : Nat) : Int) = ((c.toNat : Int) - 32) % 64 := by unfold uuB; omega
 rw [hb]
 generalize c.toNat = n at *
 go_enter Tryz.func82, Tryz.ntmps82
 go_wp2
 go_ret2
 exact ⟨rfl, rfl⟩
theorem or64 (v x : Nat) (hv : v < 67108864) (hx : x < 64) : bits .or .u32 ((v : Int) * 64) (x : Int) = ((v * 64 + x : Nat) : Int) := by
 have e1 : (v * 64) ||| x = v * 64 + x := by
  have := Nat.two_pow_add_eq_or_of_lt (i := 6) (b := x) (by omega) v
  rw [show 2 ^ 6 * v = v * 64 by omega] at this
  exact this.symm
 rw [show ((v : Int) * 64) = ((v * 64 : Nat) : Int) by omega, Go.u32_or_nat _ _ (by omega) (by omega), e1]
def uuPv (a b c d : UInt8) : Nat -> Nat
 | 0 => 0
 | 1 => uuB a
 | 2 => uuB a * 64 + uuB b
 | 3 => (uuB a * 64 + uuB b) * 64 + uuB c
 | _ => uuV a b c d
theorem uuD_len : ∀ l : List UInt8, (uuD l).length <= l.length
 | a :: b :: c :: d :: l => by
   have := uuD_len l
   rw [uuD]
   simp only [List.length_cons]
   omega
 | [] => Nat.le_refl _
 | [_] => Nat.zero_le _
 | [_, _] => Nat.zero_le _
 | [_, _, _] => Nat.zero_le _
theorem uuPv0 (a b c d : UInt8) : uuPv a b c d 0 < 67108864 ∧ uuPv a b c d 0 * 64 + uuB a = uuPv a b c d 1 := by
 have := uuB_lt a
 show 0 < 67108864 ∧ 0 * 64 + uuB a = uuB a
 omega
theorem uuPv1 (a b c d : UInt8) : uuPv a b c d 1 < 67108864 ∧ uuPv a b c d 1 * 64 + uuB b = uuPv a b c d 2 := by
 have := uuB_lt a
 show uuB a < 67108864 ∧ uuB a * 64 + uuB b = uuB a * 64 + uuB b
 omega
theorem uuPv2 (a b c d : UInt8) : uuPv a b c d 2 < 67108864 ∧ uuPv a b c d 2 * 64 + uuB c = uuPv a b c d 3 := by
 have := uuB_lt a; have := uuB_lt b
 show uuB a * 64 + uuB b < 67108864 ∧ (uuB a * 64 + uuB b) * 64 + uuB c = (uuB a * 64 + uuB b) * 64 + uuB c
 omega
theorem uuPv3 (a b c d : UInt8) : uuPv a b c d 3 < 67108864 ∧ uuPv a b c d 3 * 64 + uuB d = uuPv a b c d 4 := by
 have := uuB_lt a; have := uuB_lt b; have := uuB_lt c
 show (uuB a * 64 + uuB b) * 64 + uuB c < 67108864 ∧ ((uuB a * 64 + uuB b) * 64 + uuB c) * 64 + uuB d = uuV a b c d
 unfold uuV
 omega
theorem bytes_any (l : List UInt8) (hl : l.length <= 45) (s : ByteArray) (hs : s.data.toList = uuBody l) (w : World) :
 Calls Tryz.prog 52 #[.string s] w fun e w' => e = .returned (.tuple #[.string ⟨l.toArray⟩, .bool true]) ∧ Keeps NoB w w' := by
 obtain ⟨q, hq⟩ : ∃ q, uuG l = q := ⟨_, rfl⟩
 have hqd : (uuD q).take l.length = l := by rw [<- hq]; exact uuD_uuG l
 have hql : q.length = (l.length + 2) / 3 * 4 := by rw [<- hq, uuG_len]
 have hlow : ∀ (i : Nat) b, q[i]? = some b -> 32 <= b.toNat ∧ b.toNat <= 96 := fun i b hb => by
  have := uuG_low l b (by rw [hq]; exact List.mem_of_getElem? hb)
  exact ⟨this.1, this.2.1⟩
 have hsd : s.data.toList = uuL l.length :: q := by rw [hs]; unfold uuBody; rw [hq]
 have hsz : s.size = q.length + 1 := by rw [<- len_data, hsd]; rfl
 obtain ⟨G, hG⟩ : ∃ G, q.length = G := ⟨_, rfl⟩
 rw [hG] at hsz hql
 have x0 := fun wx => idx_str s 0 0 rfl (uuL l.length) (by rw [hsd]; rfl) wx
 have hrg := uuL_range ⟨l.length, by omega⟩
 have HBt := Lib.hid (fun w1 : World => bits_any (uuL l.length) hrg.1 hrg.2.1 w1)
 rw [uuB_uuL ⟨l.length, by omega⟩] at HBt
 have HBx := Lib.hid (fun (c : UInt8) (h1 : 32 <= c.toNat) (h2 : c.toNat <= 96) (w1 : World) => bits_any c h1 h2 w1)
 have HIx := Lib.hid (fun (i : Nat) (z : Int) (b : UInt8) (hz : z = (i : Int) + 1) (hb : q[i]? = some b) (wx : World) => idx_str s (i + 1) z (by omega) b (by rw [hsd]; exact hb) wx)
 have HLow := Lib.hid hlow
 have HQd := Lib.hid hqd
 have HG := Lib.hid hG
 have HGl := Lib.hid hql
 have hne : s.toList.isEmpty = false := by rw [Lib.toList_data, hsd]; rfl
 obtain ⟨n, hn⟩ : ∃ n, l.length = n := ⟨_, rfl⟩
 have HN := Lib.hid hn
 rw [hn] at hl hql
 have hg1 : ((n : Int) + 2) / 3 * 4 = (G : Int) := by omega
 have hn45 : (n : Int) <= 45 := by omega
 have hG60 : (G : Int) <= 60 := by omega
 clear hql
 simp only at HBt
 rw [hn] at HBt x0
 generalize (uuL n).toNat = un at *
 clear hs hq hqd hlow hsd hG hrg hn
 go_enter Tryz.func52, Tryz.ntmps52
 go_upto_region 4 with (go_at_call 82; go_loud (refine (HBt.out _).mono ?_); rintro e w1 ⟨rfl, rfl⟩)
 clear x0 HBt
 go_wp2
 go_loopw [6, 7] (fun v ii wr => ∃ (k : Nat) (out : List UInt8), k <= G ∧ k % 4 = 0 ∧ ii = .int .i64 ((k : Int) + 1) ∧ out = uuD (q.take k) ∧ out.length <= 100 ∧ Own encU8 5 (fun g => w.heap.size <= g) wr v out ∧ Keeps NoB w wr) (fun _ i _ => 100 - (intOf i).toNat)
 case atStart => exact ⟨0, [], Nat.zero_le _, rfl, rfl, rfl, by decide, Own.nil _ _ _ _, Keeps.refl _ _⟩
 case round =>
  rename World => wr
  obtain ⟨k, out, hk, hk4, rfl, hout, holn, hown, hkr⟩ := hrel
  have HO := Lib.hid hout
  have HW := Lib.hid hown
  have HKr := Lib.hid hkr
  clear hout hown hkr
  by_cases hlt : k < G
  ·have hltI : (k : Int) + 1 < (G : Int) + 1 := by omega
   have hltJ : (k : Int) < (G : Int) := by omega
   have hk3 : k + 3 < q.length := by have := HG.out; have := HGl.out; omega
   obtain ⟨a, ha⟩ : ∃ a, q[k + 0]? = some a := ⟨_, List.getElem?_eq_getElem (by omega)⟩
   obtain ⟨b, hb⟩ : ∃ b, q[k + 1]? = some b := ⟨_, List.getElem?_eq_getElem (by omega)⟩
   obtain ⟨c, hc⟩ : ∃ c, q[k + 2]? = some c := ⟨_, List.getElem?_eq_getElem (by omega)⟩
   obtain ⟨d, hd⟩ : ∃ d, q[k + 3]? = some d := ⟨_, List.getElem?_eq_getElem (by omega)⟩
   have HD4 := Lib.hid (uuD_take q ha hb hc hd hk4)
   go_upto_region 12 with fail
   go_loop [8, 44] (fun v kk => ∃ m : Nat, m <= 4 ∧ kk = .int .i64 (m : Int) ∧ v = .int .u32 ((uuPv a b c d m : Nat) : Int)) (fun _ kk => 5 - (intOf kk).toNat)
   case atStart => exact ⟨0, by omega, rfl, rfl⟩
   case round =>
    obtain ⟨m, hm, rfl, rfl⟩ := hrel
    rcases (show m = 0 ∨ m = 1 ∨ m = 2 ∨ m = 3 ∨ m = 4 by omega) with rfl | rfl | rfl | rfl | rfl
    ·have hx0 := fun wx => HIx.out (k + 0) ((k : Int) + 1 + 0) a (by omega) ha wx
     simp only [Int.add_zero] at hx0
     have HBc := Lib.hid (fun w1 : World => HBx.out a (HLow.out _ _ ha).1 (HLow.out _ _ ha).2 w1)
     obtain ⟨hvl, hnx⟩ := uuPv0 a b c d
     have hor := or64 (uuPv a b c d 0) (uuB a) hvl (uuB_lt a)
     rw [hnx] at hor
     have hbl : ((uuB a : Nat) : Int) < 64 := by have := uuB_lt a; omega
     have hvI : ((uuPv a b c d 0 : Nat) : Int) < 67108864 := by omega
     clear hnx hvl
     obtain ⟨vn, hvn⟩ : ∃ vn, uuPv a b c d 1 = vn := ⟨_, rfl⟩
     rw [hvn] at hor
     have HVn := Lib.hid hvn
     clear hvn
     generalize uuPv a b c d 0 = vo at *
     generalize uuB a = bb at *
     generalize a.toNat = cn at *
     go_wp2_with (go_at_call 82; go_loud (refine (HBc.out _).mono ?_); rintro e w1 ⟨rfl, rfl⟩)
     go_round
     case rel => exact ⟨1, by omega, by go_num, by rw [HVn.out]⟩
     case measure => simp [intOf]
    ·have hx0 := fun wx => HIx.out (k + 1) ((k : Int) + 1 + 1) b (by omega) hb wx
     skip
     have HBc := Lib.hid (fun w1 : World => HBx.out b (HLow.out _ _ hb).1 (HLow.out _ _ hb).2 w1)
     obtain ⟨hvl, hnx⟩ := uuPv1 a b c d
     have hor := or64 (uuPv a b c d 1) (uuB b) hvl (uuB_lt b)
     rw [hnx] at hor
     have hbl : ((uuB b : Nat) : Int) < 64 := by have := uuB_lt b; omega
     have hvI : ((uuPv a b c d 1 : Nat) : Int) < 67108864 := by omega
     clear hnx hvl
     obtain ⟨vn, hvn⟩ : ∃ vn, uuPv a b c d 2 = vn := ⟨_, rfl⟩
     rw [hvn] at hor
     have HVn := Lib.hid hvn
     clear hvn
     generalize uuPv a b c d 1 = vo at *
     generalize uuB b = bb at *
     generalize b.toNat = cn at *
     go_wp2_with (go_at_call 82; go_loud (refine (HBc.out _).mono ?_); rintro e w1 ⟨rfl, rfl⟩)
     go_round
     case rel => exact ⟨2, by omega, by go_num, by rw [HVn.out]⟩
     case measure => simp [intOf]
    ·have hx0 := fun wx => HIx.out (k + 2) ((k : Int) + 1 + 2) c (by omega) hc wx
     skip
     have HBc := Lib.hid (fun w1 : World => HBx.out c (HLow.out _ _ hc).1 (HLow.out _ _ hc).2 w1)
     obtain ⟨hvl, hnx⟩ := uuPv2 a b c d
     have hor := or64 (uuPv a b c d 2) (uuB c) hvl (uuB_lt c)
     rw [hnx] at hor
     have hbl : ((uuB c : Nat) : Int) < 64 := by have := uuB_lt c; omega
     have hvI : ((uuPv a b c d 2 : Nat) : Int) < 67108864 := by omega
     clear hnx hvl
     obtain ⟨vn, hvn⟩ : ∃ vn, uuPv a b c d 3 = vn := ⟨_, rfl⟩
     rw [hvn] at hor
     have HVn := Lib.hid hvn
     clear hvn
     generalize uuPv a b c d 2 = vo at *
     generalize uuB c = bb at *
     generalize c.toNat = cn at *
     go_wp2_with (go_at_call 82; go_loud (refine (HBc.out _).mono ?_); rintro e w1 ⟨rfl, rfl⟩)
     go_round
     case rel => exact ⟨3, by omega, by go_num, by rw [HVn.out]⟩
     case measure => simp [intOf]
    ·have hx0 := fun wx => HIx.out (k + 3) ((k : Int) + 1 + 3) d (by omega) hd wx
     skip
     have HBc := Lib.hid (fun w1 : World => HBx.out d (HLow.out _ _ hd).1 (HLow.out _ _ hd).2 w1)
     obtain ⟨hvl, hnx⟩ := uuPv3 a b c d
     have hor := or64 (uuPv a b c d 3) (uuB d) hvl (uuB_lt d)
     rw [hnx] at hor
     have hbl : ((uuB d : Nat) : Int) < 64 := by have := uuB_lt d; omega
     have hvI : ((uuPv a b c d 3 : Nat) : Int) < 67108864 := by omega
     clear hnx hvl
     obtain ⟨vn, hvn⟩ : ∃ vn, uuPv a b c d 4 = vn := ⟨_, rfl⟩
     rw [hvn] at hor
     have HVn := Lib.hid hvn
     clear hvn
     generalize uuPv a b c d 3 = vo at *
     generalize uuB d = bb at *
     generalize d.toNat = cn at *
     go_wp2_with (go_at_call 82; go_loud (refine (HBc.out _).mono ?_); rintro e w1 ⟨rfl, rfl⟩)
     go_round
     case rel => exact ⟨4, by omega, by go_num, by rw [HVn.out]⟩
     case measure => simp [intOf]
    ·obtain ⟨V, hV⟩ : ∃ V, uuV a b c d = V := ⟨_, rfl⟩
     have hVl := uuV_lt a b c d
     rw [hV] at HD4 hVl
     rw [show uuPv a b c d 4 = V from hV]
     have hb1 : (UInt8.ofNat (V / 65536)).toNat = V / 65536 := by rw [UInt8.toNat_ofNat']; omega
     have hb2 : (UInt8.ofNat (V / 256)).toNat = V / 256 % 256 := UInt8.toNat_ofNat'
     have hb3 : (UInt8.ofNat V).toNat = V % 256 := UInt8.toNat_ofNat'
     have HLit := Lib.hid (own_lit (E := encU8) (e := 5) (w := wr) (S := fun _ => True) [UInt8.ofNat (V / 65536), UInt8.ofNat (V / 256), UInt8.ofNat V] #[.int .u8 ((V / 65536 : Nat) : Int), .int .u8 ((V / 256 % 256 : Nat) : Int), .int .u8 ((V % 256 : Nat) : Int)] (by simp only [List.flatMap_cons, List.flatMap_nil, encU8, hb1, hb2, hb3]; rfl) 3 rfl trivial (by decide))
     have hd1 : (V : Int) / 65536 = ((V / 65536 : Nat) : Int) := by omega
     have hd2 : (V : Int) / 256 = ((V / 256 : Nat) : Int) := by omega
     have hw1 : ((V / 65536 : Nat) : Int) < 256 := by omega
     have hw2 : IntKind.u8.wrap ((V / 256 : Nat) : Int) = ((V / 256 % 256 : Nat) : Int) := by rw [IntKind.wrap_u8]; omega
     have hw3 : IntKind.u8.wrap (V : Int) = ((V % 256 : Nat) : Int) := by rw [IntKind.wrap_u8]; omega
     have hzw := HKr.out.size
     have HEq : Hid (out ++ [UInt8.ofNat (V / 65536), UInt8.ofNat (V / 256), UInt8.ofNat V] = uuD (q.take (k + 4))) := Lib.hid (by rw [HD4.out, HO.out]; rfl)
     have hbd : (out ++ [UInt8.ofNat (V / 65536), UInt8.ofNat (V / 256), UInt8.ofNat V]).length <= 100 := by
      rw [HEq.out]
      have := uuD_len (q.take (k + 4))
      rw [List.length_take] at this
      omega
     have HBd := Lib.hid hbd
     clear hb1 hb2 hb3 hV hbd ha hb hc hd
     generalize UInt8.ofNat (V / 65536) = e1 at *
     generalize UInt8.ofNat (V / 256) = e2 at *
     generalize UInt8.ofNat V = e3 at *
     generalize V / 65536 = n1 at *
     generalize V / 256 % 256 = n2 at *
     generalize V % 256 = n3 at *
     generalize V / 256 = m2 at *
     go_wp2_with (at_builtin; go_loud (refine wpl_append rfl (.tmp 64) (.tmp 73) rfl tU8 (HW.out.keep ((Keeps.refl NoB wr).alloc _) (fun _ _ h => h)) HLit.out.sl rfl rfl (by simp; omega) (by simp [maxLen]; omega) (by simp; omega) ?_))
     intro v' w4 ho4 hk4 hf4
     go_wp2_with fail
     go_roundw
     case rel => exact ⟨k + 4, _, by omega, by omega, by go_num, HEq.out, HBd.out, ho4, (HKr.out.alloc _).step hk4 (fun g hg => .inr (HW.out.2 g hg))⟩
     case measure => (simp [intOf]) <;> omega
  ·obtain rfl : k = G := by omega
   have hoq : out = uuD q := by rw [HO.out, List.take_of_length_le (by rw [HG.out]; exact Nat.le_refl _)]
   have hon : out.take n = l := by rw [hoq, <- HN.out]; exact HQd.out
   have hnl : n <= out.length := by
    have h1 := congrArg List.length hon
    rw [List.length_take, HN.out] at h1
    omega
   rcases HW.out.cases with ⟨rfl, hnil⟩ | ⟨g, cap, cur, rfl, _, _, hc1, hc2, _, _⟩
   ·subst hnil
    have hn0 : n = 0 := by simpa using hnl
    subst hn0
    have hl0 : l = [] := by rw [<- hon]; rfl
    subst hl0
    have hsl : (Instr.slice 58 (.slice none 0 0) none (some (.int .i64 0)) none).run Tryz.prog wr = .ok (.slice none 0 0) wr := by
     have h : ((Tryz.prog.info? 5).map (·.size)).isSome = true := by kernel_rfl
     cases hi : Tryz.prog.info? 5 with
     | none => rw [hi] at h; cases h
     | some inf => simp [Instr.slice, Instr.sliceBounds, Instr.sliceBound, asIntOf, run_underlying Tryz.underlying58, sizeOf, typeInfo, hi]
    have hcv := own_str HW.out
    clear hoq hon
    go_wp2
    go_ret2
    exact ⟨rfl, HKr.out⟩
   ·have hsl := run_slice_h (P := Tryz.prog) 58 5 Tryz.underlying58 (by kernel_rfl) g 0 out.length cap n (by omega) wr (by unfold maxLen at hc2; omega)
    have hat := HW.out.at
    have hcv := run_convert_bytes_back (P := Tryz.prog) wr 58 9 5 ⟨g, 0, none⟩ cap l Tryz.underlying58 Tryz.underlying5 Tryz.underlying9 (fun j hj => by
     have hj2 : out[j]? = some l[j] := by
      have h1 : (out.take n)[j]? = some l[j] := by rw [hon]; exact List.getElem?_eq_getElem hj
      rw [List.getElem?_take] at h1
      split at h1
      ·exact h1
      ·cases h1
     obtain ⟨g', off, he, _, _, hcc⟩ := hat.at hj2
     cases he
     have := hcc 0 _ rfl
     rw [add_lit]
     simpa [encU8] using this)
    rw [HN.out] at hcv
    clear hat hoq hon
    go_wp2
    go_ret2
    exact ⟨rfl, HKr.out⟩
set_option maxHeartbeats 4000000
theorem slIndex_10 (s : ByteArray) (w : World) :
 Calls Tryz.prog 133 #[.string s, .string ⟨#[10]⟩] w fun e w' => e = .returned (.int .i64 (bIdx s 10)) ∧ w' = w := by
 go_enter Tryz.func133, Tryz.ntmps133
 go_wp2
 ·go_ret
  refine ⟨ret_i64 ?_, rfl⟩
  have h : ([10] == s.toList) = true := by assumption
  rw [Lib.toList_data, beq_iff_eq] at h
  rw [bIdx, <- h]
  rfl
 ·rw [run_callFunc_extern Tryz.func150 (by kernel_rfl) (by kernel_rfl) (by kernel_rfl) (e := Extern.BytealgIndexByte.indexByte) (by kernel_rfl), run_indexByte_string]
  simp only [Result.andThen, Lib.firstIdx_eq]
  rw [Oper.upon_value]
  go_wp2
  go_ret
  exact ⟨rfl, rfl⟩
theorem slCut_10 (s : ByteArray) (k : Nat) (hb : bIdx s 10 = (k : Int)) (hk : k < s.size) (w : World) (hz : s.size <= 100000000) :
 Calls Tryz.prog 110 #[.string s, .string ⟨#[10]⟩] w fun e w' => e = .returned (.tuple #[.string (s.extract 0 k), .string (s.extract (k + 1) s.size), .bool true]) ∧ Keeps NoB w w' := by
 have HI := Lib.hid (fun w1 : World => slIndex_10 s w1)
 rw [hb] at HI
 have h1 : (k : Int) < (s.size : Int) := by omega
 have h2 : (k : Int) <= (s.size : Int) := by omega
 have h3 : (k : Int) + 1 <= (s.size : Int) := by omega
 have h4 : (s.size : Int) <= 100000000 := by omega
 clear hb
 go_enter Tryz.func110, Tryz.ntmps110
 go_upto_region 3 with (go_at_call 133; go_loud (refine (HI.out _).mono ?_); rintro e w1 ⟨rfl, rfl⟩)
 go_quiet (fail)
 go_wp2
 go_ret3
 exact ⟨rfl, (Keeps.refl NoB _).drewN _⟩
theorem cut_10 {s : ByteArray} {x y : List UInt8} (h : s.data.toList = x ++ 10 :: y) (hx : ∀ b ∈ x, b ≠ 10) (w : World) (hz : s.size <= 100000000) :
 Calls Tryz.prog 79 #[.string s, .string ⟨#[10]⟩] w fun e w' => e = .returned (.tuple #[.string ⟨x.toArray⟩, .string ⟨y.toArray⟩, .bool true]) ∧ Keeps NoB w w' := by
 have hl : s.size = x.length + 1 + y.length := by rw [<- len_data, h]; simp; omega
 have HC := Lib.hid (fun w1 : World => slCut_10 s x.length (bIdx_at h hx) (by omega) w1 hz)
 have e1 : s.extract 0 x.length = ⟨x.toArray⟩ := ba_eq (by rw [data_extract, h, List.drop_zero, List.take_left'] ; rfl)
 have e2 : s.extract (x.length + 1) s.size = ⟨y.toArray⟩ := ba_eq (by
  rw [data_extract, List.take_of_length_le (by rw [len_data]; exact Nat.le_refl _), h]
  show (x ++ 10 :: y).drop (x.length + 1) = y
  rw [<- List.drop_drop, List.drop_left]
  rfl)
 rw [e1, e2] at HC
 clear h hx e1 e2
 go_enter Tryz.func79, Tryz.ntmps79
 go_wp2_with (go_at_call 110; go_loud (refine (HC.out _).mono ?_); rintro e w1 ⟨rfl, hk1⟩)
 go_ret3
 exact ⟨rfl, hk1⟩
theorem slIndex_32 (s : ByteArray) (w : World) :
 Calls Tryz.prog 133 #[.string s, .string ⟨#[32]⟩] w fun e w' => e = .returned (.int .i64 (bIdx s 32)) ∧ w' = w := by
 go_enter Tryz.func133, Tryz.ntmps133
 go_wp2
 ·go_ret
  refine ⟨ret_i64 ?_, rfl⟩
  have h : ([32] == s.toList) = true := by assumption
  rw [Lib.toList_data, beq_iff_eq] at h
  rw [bIdx, <- h]
  rfl
 ·rw [run_callFunc_extern Tryz.func150 (by kernel_rfl) (by kernel_rfl) (by kernel_rfl) (e := Extern.BytealgIndexByte.indexByte) (by kernel_rfl), run_indexByte_string]
  simp only [Result.andThen, Lib.firstIdx_eq]
  rw [Oper.upon_value]
  go_wp2
  go_ret
  exact ⟨rfl, rfl⟩
theorem slCut_32 (s : ByteArray) (k : Nat) (hb : bIdx s 32 = (k : Int)) (hk : k < s.size) (w : World) (hz : s.size <= 100000000) :
 Calls Tryz.prog 110 #[.string s, .string ⟨#[32]⟩] w fun e w' => e = .returned (.tuple #[.string (s.extract 0 k), .string (s.extract (k + 1) s.size), .bool true]) ∧ Keeps NoB w w' := by
 have HI := Lib.hid (fun w1 : World => slIndex_32 s w1)
 rw [hb] at HI
 have h1 : (k : Int) < (s.size : Int) := by omega
 have h2 : (k : Int) <= (s.size : Int) := by omega
 have h3 : (k : Int) + 1 <= (s.size : Int) := by omega
 have h4 : (s.size : Int) <= 100000000 := by omega
 clear hb
 go_enter Tryz.func110, Tryz.ntmps110
 go_upto_region 3 with (go_at_call 133; go_loud (refine (HI.out _).mono ?_); rintro e w1 ⟨rfl, rfl⟩)
 go_quiet (fail)
 go_wp2
 go_ret3
 exact ⟨rfl, (Keeps.refl NoB _).drewN _⟩
theorem cut_32 {s : ByteArray} {x y : List UInt8} (h : s.data.toList = x ++ 32 :: y) (hx : ∀ b ∈ x, b ≠ 32) (w : World) (hz : s.size <= 100000000) :
 Calls Tryz.prog 79 #[.string s, .string ⟨#[32]⟩] w fun e w' => e = .returned (.tuple #[.string ⟨x.toArray⟩, .string ⟨y.toArray⟩, .bool true]) ∧ Keeps NoB w w' := by
 have hl : s.size = x.length + 1 + y.length := by rw [<- len_data, h]; simp; omega
 have HC := Lib.hid (fun w1 : World => slCut_32 s x.length (bIdx_at h hx) (by omega) w1 hz)
 have e1 : s.extract 0 x.length = ⟨x.toArray⟩ := ba_eq (by rw [data_extract, h, List.drop_zero, List.take_left'] ; rfl)
 have e2 : s.extract (x.length + 1) s.size = ⟨y.toArray⟩ := ba_eq (by
  rw [data_extract, List.take_of_length_le (by rw [len_data]; exact Nat.le_refl _), h]
  show (x ++ 32 :: y).drop (x.length + 1) = y
  rw [<- List.drop_drop, List.drop_left]
  rfl)
 rw [e1, e2] at HC
 clear h hx e1 e2
 go_enter Tryz.func79, Tryz.ntmps79
 go_wp2_with (go_at_call 110; go_loud (refine (HC.out _).mono ?_); rintro e w1 ⟨rfl, hk1⟩)
 go_ret3
 exact ⟨rfl, hk1⟩
theorem next_any {s : ByteArray} {x y : List UInt8} (B : Nat) (h : s.data.toList = x ++ 10 :: y) (hx : ∀ b ∈ x, b ≠ 10) (w : World) (hB : Bk w B [.string s]) (hz : s.size <= 100000000) :
 Calls Tryz.prog 50 #[.pointer (some ⟨B, 0, none⟩)] w fun e w' => e = .returned (.tuple #[.string ⟨x.toArray⟩, .bool true]) ∧ Bk w' B [.string ⟨y.toArray⟩] ∧ Keeps (fun g => g = B) w w' := by
 have HC := Lib.hid (fun w1 : World => cut_10 h hx w1 hz)
 have HB := Lib.hid hB
 have b0 := hB.cell 0 _ rfl
 have bl := hB.lt
 clear h hx hB
 go_enter Tryz.func50, Tryz.ntmps50
 go_upto_region 2 with (go_at_call 79; go_loud (refine (HC.out _).mono ?_); rintro e w1 ⟨rfl, hk1⟩)
 have HB1 := Lib.hid (HB.out.on hk1)
 clear b0 bl
 have b0 := HB1.out.cell 0 _ rfl
 have bf := HB1.out.fz
 have bl := HB1.out.lt
 go_wp2
 go_ret2
 exact ⟨rfl, HB1.out.put 0 _, hk1.of_none.trans (kset w1 ⟨B, 0, none⟩ _)⟩
set_option maxHeartbeats 8000000
abbrev hdB : ByteArray := ⟨#[98, 101, 103, 105, 110, 32, 54, 48, 48, 32, 120]⟩
theorem slPrefix_hd (w : World) : Calls Tryz.prog 134 #[.string hdB, .string ⟨#[98, 101, 103, 105, 110, 32]⟩] w fun e w' => e = .returned (.bool true) ∧ w = w' := by
 have hex : hdB.extract 0 6 = ⟨#[98, 101, 103, 105, 110, 32]⟩ := by decide
 go_enter Tryz.func134, Tryz.ntmps134
 go_wp2
 go_ret
 exact ⟨rfl, rfl⟩
theorem cutPrefix_hd (w : World) : Calls Tryz.prog 80 #[.string hdB, .string ⟨#[98, 101, 103, 105, 110, 32]⟩] w fun e w' => e = .returned (.tuple #[.string ⟨#[54, 48, 48, 32, 120]⟩, .bool true]) ∧ w = w' := by
 have hex : hdB.extract 6 11 = ⟨#[54, 48, 48, 32, 120]⟩ := by decide
 have HP := Lib.hid (fun w1 : World => slPrefix_hd w1)
 have HC : Hid (∀ w1 : World, Calls Tryz.prog 111 #[.string hdB, .string ⟨#[98, 101, 103, 105, 110, 32]⟩] w1 fun e w' => e = .returned (.tuple #[.string ⟨#[54, 48, 48, 32, 120]⟩, .bool true]) ∧ w1 = w') := by
  show ∀ w1 : World, _
  intro w1
  go_enter Tryz.func111, Tryz.ntmps111
  go_wp2_with (go_at_call 134; go_loud (refine (HP.out _).mono ?_); rintro e w2 ⟨rfl, rfl⟩)
  go_ret2
  exact ⟨rfl, rfl⟩
 clear hex
 go_enter Tryz.func80, Tryz.ntmps80
 go_wp2_with (go_at_call 111; go_loud (refine (HC.out _).mono ?_); rintro e w2 ⟨rfl, rfl⟩)
 go_ret2
 exact ⟨rfl, rfl⟩
def hdM : Nat -> Int
 | 0 => 0
 | 1 => 6
 | 2 => 48
 | _ => 384
theorem head_any (w : World) : Calls Tryz.prog 51 #[.string hdB] w fun e w' => e = .returned (.tuple #[.int .i64 384, .string ⟨#[120]⟩, .int .i64 0]) ∧ Keeps NoB w w' := by
 have HC := Lib.hid (fun w1 : World => cutPrefix_hd w1)
 have HCt := Lib.hid (fun w1 : World => cut_32 (s := ⟨#[54, 48, 48, 32, 120]⟩) (x := [54, 48, 48]) (y := [120]) rfl (by decide) w1 (by decide))
 have HR := Lib.hid (fun w1 : World => pathRight_x w1)
 have hconv := fun wx => Lib.run_convert_string_bytes (P := Tryz.prog) wx 9 58 5 ⟨#[54, 48, 48]⟩ Tryz.underlying9 Tryz.underlying58 Tryz.underlying5
 have HSl := Lib.hid (fun wx : World => conv_sl wx ⟨#[54, 48, 48]⟩ (by decide))
 have hb1 : bits .or .i64 0 6 = 6 := by decide
 have hb2 : bits .or .i64 48 0 = 48 := by decide
 have hb3 : bits .or .i64 384 0 = 384 := by decide
 go_enter Tryz.func51, Tryz.ntmps51
 go_upto_region 5 with (first | (go_at_call 80; go_loud (refine (HC.out _).mono ?_); rintro e w1 ⟨rfl, rfl⟩) | (go_at_call 79; go_loud (refine (HCt.out _).mono ?_); rintro e w2 ⟨rfl, hk2⟩) | (go_at_call 81; go_loud (refine (HR.out _).mono ?_); rintro e w3 ⟨rfl, rfl⟩))
 obtain ⟨hsl, hkc⟩ := HSl.out w2
 have HK := Lib.hid (hk2.trans hkc)
 have hat : ∀ (j : Nat) b, ([54, 48, 48] : List UInt8)[j]? = some b -> (Lib.bytesWorld w2 5 ⟨#[54, 48, 48]⟩).cell? ⟨w2.heap.size, j, none⟩ = some (.int .u8 (b.toNat : Int)) := fun j b hb => by
  obtain ⟨g, off, e, _, _, hcc⟩ := hsl.at hb
  cases e
  have := hcc 0 _ rfl
  simpa [encU8] using this
 have t0 := hat 0 54 rfl
 have t1 := hat 1 48 rfl
 have t2 := hat 2 48 rfl
 have hcp := hsl.cap
 have hmx := hsl.max
 unfold maxLen at hmx
 clear hsl hkc hk2 hat HSl
 go_upto_region 6 with fail
 clear hconv
 generalize Lib.bytesWorld w2 5 ⟨#[54, 48, 48]⟩ = w4 at *
 go_loop [2, 3, 4, 41] (fun m nm er i => ∃ k : Nat, k <= 3 ∧ i = .int .i64 (k : Int) ∧ m = .int .i64 (hdM k) ∧ nm = .string ⟨#[120]⟩ ∧ er = .int .i64 0) (fun _ _ _ i => 4 - (intOf i).toNat)
 case atStart => exact ⟨0, by omega, rfl, rfl, rfl, rfl⟩
 case round =>
  obtain ⟨k, hk, rfl, rfl, rfl, rfl⟩ := hrel
  rcases (show k = 0 ∨ k = 1 ∨ k = 2 ∨ k = 3 by omega) with rfl | rfl | rfl | rfl
  ·simp only [show hdM 0 = 0 from rfl]
   go_wp2
   go_round
   case rel => exact ⟨1, by omega, by go_num, rfl, rfl, rfl⟩
   case measure => simp [intOf]
  ·simp only [show hdM 1 = 6 from rfl]
   go_wp2
   go_round
   case rel => exact ⟨2, by omega, by go_num, rfl, rfl, rfl⟩
   case measure => simp [intOf]
  ·simp only [show hdM 2 = 48 from rfl]
   go_wp2
   go_round
   case rel => exact ⟨3, by omega, by go_num, rfl, rfl, rfl⟩
   case measure => simp [intOf]
  ·simp only [show hdM 3 = 384 from rfl]
   go_wp2
   go_ret3
   exact ⟨rfl, HK.out⟩
theorem results_tmp4 {fn : Func} {t u v x : Tmp} (h : fn.results = #[.tmp t, .tmp u, .tmp v, .tmp x]) (tmps : Array Value) (P : Program) (w : World) :
 (results fn tmps).run P w = .ok (.tuple #[tmps.getD t undef, tmps.getD u undef, tmps.getD v undef, tmps.getD x undef]) w := by
 simp [results, h]
theorem toList_mk (l : List UInt8) : (⟨l.toArray⟩ : ByteArray).data.toList = l := by simp
theorem encB_cut (l : List UInt8) : encB l = hdB.data.toList ++ 10 :: uuRest l := rfl
def rdSize (R : Nat) (w' : World) : Nat := match w'.cell? ⟨R, 0, none⟩ with
 | some (.string t) => t.size
 | _ => 0
theorem rdSize_eq {R : Nat} {w' : World} {t : ByteArray} (h : w'.cell? ⟨R, 0, none⟩ = some (.string t)) : rdSize R w' = t.size := by unfold rdSize; rw [h]
def DecJ (s : ByteArray) (l : List UInt8) (w : World) (a' : Act) (w' : World) : Prop :=
 ∃ (r dn : List UInt8), ∃ (u1 u8 u9 u10 u11 u12 u13 u14 u15 u16 u17 u18 u19 u20 u21 u22 u23 u24 u25 u26 u27 u28 u29 u30 u31 u32 u33 u34 u35 u36 u37 u38 u39 u40 u41 u42 u43 u44 u45 u46 u47 u48 u49 u50 u51 u52 u53 u54 u55 u56 u57 u58 u59 u60 : Value), a' = { tmps := #[.string s, u1, .int .i64 384, .string ⟨#[120]⟩, .string ⟨#[]⟩, .int .i64 0, .pointer (some ⟨w.heap.size, 0, none⟩), .pointer (some ⟨w.heap.size + 1, 0, none⟩), u8, u9, u10, u11, u12, u13, u14, u15, u16, u17, u18, u19, u20, u21, u22, u23, u24, u25, u26, u27, u28, u29, u30, u31, u32, u33, u34, u35, u36, u37, u38, u39, u40, u41, u42, u43, u44, u45, u46, u47, u48, u49, u50, u51, u52, u53, u54, u55, u56, u57, u58, u59, u60], defers := [] } ∧ dn ++ r = l ∧ Bk w' w.heap.size [.string ⟨(uuRest r).toArray⟩] ∧ BA (fun g => w.heap.size + 1 < g) w' (w.heap.size + 1) dn ∧ Keeps NoB w w'
theorem dec_any (s : ByteArray) (l : List UInt8) (hs : s.data.toList = encB l) (hl : l.length <= 1000000) (w : World) :
 Calls Tryz.prog 32 #[.string s] w fun e w' => e = .returned (.tuple #[.int .i64 384, .string ⟨#[120]⟩, .string ⟨l.toArray⟩, .int .i64 0]) ∧ Keeps NoB w w' := by
 have hz : s.size <= 100000000 := by
  have := encB_len l
  rw [<- hs, len_data] at this
  omega
 have k1 : Keeps NoB w (w.alloc (.cells #[.string s] 95)) := (Keeps.refl _ _).alloc _
 have k2 : Keeps NoB (w.alloc (.cells #[.string s] 95)) ((w.alloc (.cells #[.string s] 95)).alloc (.cells #[.pointer none, .slice none 0 0] 98)) := (Keeps.refl _ _).alloc _
 have HR := Lib.hid (Bk.new k2)
 have hba := BA.new (S := fun g => w.heap.size + 1 < g) (w.alloc (.cells #[.string s] 95)) (by simp)
 rw [show (w.alloc (.cells #[.string s] 95)).heap.size = w.heap.size + 1 by simp] at hba
 have HBA := Lib.hid hba
 have HK2 := Lib.hid (k1.trans k2)
 have HN := Lib.hid (fun (w1 : World) (hB : Bk w1 w.heap.size [.string s]) => next_any (s := s) w.heap.size (by rw [hs, encB_cut]) (by decide) w1 hB hz)
 rw [show (⟨hdB.data.toList.toArray⟩ : ByteArray) = hdB from rfl] at HN
 have HH := Lib.hid (fun w1 : World => head_any w1)
 have HL := Lib.hid hl
 clear hs k1 k2 hba
 go_enter Tryz.func32, Tryz.ntmps32
 go_wp2
 refine wp_scope_goto 0 (DecJ s l w) (fun _ w' => rdSize w.heap.size w') rfl ?_ ?_
 ·intro HJ
  have HJ' := Lib.hid HJ
  clear HJ
  go_wp2_with (first | (go_at_call 50; go_loud (refine (HN.out _ HR.out).mono ?_); rintro e w3 ⟨rfl, hb3, hk3⟩) | (go_at_call 51; go_loud (refine (HH.out _).mono ?_); rintro e w4 ⟨rfl, hk4⟩))
  have hR4 := (hb3.on hk4)
  have hB4 := (HBA.out.keep hk3 (by show ¬ w.heap.size + 1 = w.heap.size; omega) (fun g hg e => by have h1 : w.heap.size + 1 < g := hg; have h2 : g = w.heap.size := e; omega)).on hk4
  have hK4 := (HK2.out.step hk3 (fun g hg => .inr (by rw [hg]; exact Nat.le_refl _))).trans hk4
  go_step3
  go_step
  go_step
  refine HJ'.out _ _ ?_
  exact ⟨l, [], _, _, _, _, _, _, _, _, _, _, _, _, _, _, _, _, _, _, _, _, _, _, _, _, _, _, _, _, _, _, _, _, _, _, _, _, _, _, _, _, _, _, _, _, _, _, _, _, _, _, _, _, _, _, rfl, rfl, hR4, hB4, hK4⟩
 ·rintro a' w1 ⟨r, dn, u1, u8, u9, u10, u11, u12, u13, u14, u15, u16, u17, u18, u19, u20, u21, u22, u23, u24, u25, u26, u27, u28, u29, u30, u31, u32, u33, u34, u35, u36, u37, u38, u39, u40, u41, u42, u43, u44, u45, u46, u47, u48, u49, u50, u51, u52, u53, u54, u55, u56, u57, u58, u59, u60, rfl, hdr, hR1, hB1, hK1⟩
  obtain ⟨y, hy, hy0, hy1⟩ := uuRest_cut r
  have hlen : dn.length + r.length <= 1000000 := by
   have h1 := congrArg List.length hdr
   rw [List.length_append] at h1
   have h2 := HL.out
   omega
  have h45 : (r.take 45).length <= 45 := by rw [List.length_take]; exact Nat.min_le_left _ _
  have hsz : (⟨(uuRest r).toArray⟩ : ByteArray).size <= 100000000 := by
   show (uuRest r).toArray.size <= _
   rw [List.size_toArray, uuRest_len]
   have := uuSize_le r.length
   omega
  have HNx := Lib.hid (next_any (s := ⟨(uuRest r).toArray⟩) w.heap.size (by rw [toList_mk, hy]) (fun b hb => (uuBody_low (by omega) b hb).2.2) w1 hR1 hsz)
  have HBy := Lib.hid (fun w2 : World => bytes_any (r.take 45) h45 ⟨(uuBody (r.take 45)).toArray⟩ (toList_mk _) w2)
  have HB1 := Lib.hid hB1
  have HK1 := Lib.hid hK1
  have HDr := Lib.hid hdr
  have HLn := Lib.hid hlen
  have HSzR : Hid (w1.cell? ⟨w.heap.size, 0, none⟩ = some (.string ⟨(uuRest r).toArray⟩)) := hR1.cell 0 _ rfl
  clear hR1 hB1 hK1 hdr hsz HN HH HR HBA HK2
  by_cases hr : r = []
  ·subst hr
   have hye := hy0 rfl
   subst hye
   have HDl : Hid (dn = l) := Lib.hid (by have := HDr.out; rwa [List.append_nil] at this)
   clear hy hy0 hy1 h45 hlen HDr
   simp only [List.take_nil] at HNx HBy
   rw [show (⟨([] : List UInt8).toArray⟩ : ByteArray) = ⟨#[]⟩ from rfl] at HBy
   rw [show (⟨([101, 110, 100, 10] : List UInt8).toArray⟩ : ByteArray) = ⟨#[101, 110, 100, 10]⟩ from rfl] at HNx
   go_wp2_with (first | (go_at_call 50; go_loud (refine HNx.out.mono ?_); rintro e w3 ⟨rfl, hb3, hk3⟩) | (go_at_call 52; go_loud (refine (HBy.out _).mono ?_); rintro e w4 ⟨rfl, hk4⟩; have hb4 := hb3.on hk4; have b0 := hb4.cell 0 _ rfl; have bl := hb4.lt; have HB4 := Lib.hid ((HB1.out.keep hk3 (by show ¬ w.heap.size + 1 = w.heap.size; omega) (fun g hg e => by have h1 : w.heap.size + 1 < g := hg; have h2 : g = w.heap.size := e; omega)).on hk4); have HK4 := Lib.hid ((HK1.out.step hk3 (fun g hg => .inr (by rw [hg]; exact Nat.le_refl _))).trans hk4)) | (go_at_call 54; go_loud (refine (sbString_any (B := w.heap.size) HB4.out (fun g hg => by have h1 : w.heap.size + 1 < g := hg; omega) (by omega) (by have h1 := HB4.out.lt; omega)).mono ?_); rintro e w5 ⟨rfl, hk5⟩))
   simp only [Exit.jump]
   (try simp only [Exit.inBlock, Exit.then])
   refine bodyPost_ret (results_tmp4 rfl _ _ _) rfl ?_
   refine ⟨?_, HK4.out.step hk5 (fun g hg => .inr hg)⟩
   rw [<- HDl.out]
   rfl
  ·obtain rfl : y = uuRest (r.drop 45) := hy1 hr
   have hrl : 0 < r.length := List.length_pos_iff.2 hr
   have hne : (⟨(r.take 45).toArray⟩ : ByteArray).toList.isEmpty = false := by
    rw [Lib.toList_data, toList_mk]
    rcases h : r.take 45 with _ | _
    ·have h2 : (r.take 45).length = 0 := by rw [h]; rfl
     rw [List.length_take] at h2
     omega
    ·rfl
   have hne3 : ¬ r.take 45 = [] := fun h => by
    have h2 : (r.take 45).length = 0 := by rw [h]; rfl
    rw [List.length_take] at h2
    omega
   have hne2 : (r.take 45).isEmpty = false := by
    rcases h : r.take 45 with _ | _
    ·exact absurd h hne3
    ·rfl
   have HDl : Hid ((dn ++ r.take 45) ++ r.drop 45 = l) := Lib.hid (by rw [List.append_assoc, List.take_append_drop]; exact HDr.out)
   have HMs : Hid ((uuRest (r.drop 45)).length < (uuRest r).length) := Lib.hid (by rw [hy, List.length_append, List.length_cons, uuBody_len]; omega)
   have HTl : Hid ((r.take 45).length <= 45 ∧ (⟨(r.take 45).toArray⟩ : ByteArray).data.toList = r.take 45) := by show _ ∧ _; exact ⟨h45, toList_mk _⟩
   clear hy hy0 hy1 h45 hlen hr hrl
   generalize r.take 45 = tk at *
   generalize r.drop 45 = dk at *
   go_wp2_with (first | (go_at_call 50; go_loud (refine HNx.out.mono ?_); rintro e w3 ⟨rfl, hb3, hk3⟩) | (go_at_call 52; go_loud (refine (HBy.out _).mono ?_); rintro e w4 ⟨rfl, hk4⟩; have hb4 := hb3.on hk4; have HB4 := Lib.hid ((HB1.out.keep hk3 (by show ¬ w.heap.size + 1 = w.heap.size; omega) (fun g hg e => by have h1 : w.heap.size + 1 < g := hg; have h2 : g = w.heap.size := e; omega)).on hk4); have HK4 := Lib.hid ((HK1.out.step hk3 (fun g hg => .inr (by rw [hg]; exact Nat.le_refl _))).trans hk4)) | (go_at_call 53; refine (sbWriteString_any HB4.out (fun g hg => by have h1 := HB4.out.lt; show w.heap.size + 1 < g; omega) _ ?_).mono ?_; (focus (have h4 := HLn.out; have h5 := HTl.out.1; show dn.length + tk.toArray.size <= 4294967296; rw [List.size_toArray]; omega)); rintro e w5 ⟨rfl, hb5, hk5⟩))
   have hr5 := hb4.keep hk5 (by rintro (h | h) <;> omega)
   have hK5 := HK4.out.step hk5 (fun g hg => .inr (by rcases hg with h | h <;> omega))
   (try rw [toList_mk] at hb5)
   have hm5 := hr5.cell 0 _ rfl
   go_step3
   refine ⟨rfl, ⟨dk, dn ++ tk, _, _, _, _, _, _, _, _, _, _, _, _, _, _, _, _, _, _, _, _, _, _, _, _, _, _, _, _, _, _, _, _, _, _, _, _, _, _, _, _, _, _, _, _, _, _, _, _, _, _, _, _, _, _, rfl, HDl.out, hr5, hb5, hK5⟩, ?_⟩
   rw [rdSize_eq hm5, rdSize_eq HSzR.out]
   show (uuRest dk).toArray.size < (uuRest r).toArray.size
   rw [List.size_toArray, List.size_toArray]
   exact HMs.out
set_option maxHeartbeats 1000000 in
theorem pieces_any (s : ByteArray) (w : World) (hs : s.size < 4294967281) :
 Calls Tryz.prog 72 #[.string s] w fun e w' =>
  ∃ v, e = .returned v ∧ Own encStr 9 (fun g => w.heap.size <= g) w' v (pcs s) ∧ Keeps NoB w w' := by
 have hpl := pcs_length s
 have hall : pcs (s.extract 0 s.size) = pcs s := by rw [extract_all]
 have Hall := Lib.hid hall
 clear hall
 go_enter Tryz.func72, Tryz.ntmps72
 go_wp2
 go_loopw [3, 4, 5] (fun o f i wr => ∃ k j : Nat, ∃ l : List ByteArray, k <= s.size ∧ j <= k ∧ i = .int .i64 k ∧ f = .int .i64 j ∧ Own encStr 9 (fun g => w.heap.size <= g) wr o l ∧ l ++ pcs (s.extract j s.size) = pcs s ∧
  (∀ (m : Nat) (h : m < s.size), j <= m -> m < k -> ¬ s[m] = 47) ∧ Keeps NoB w wr) (fun _ _ i _ => s.size - (intOf i).toNat)
 case atStart => exact ⟨0, 0, [], Nat.zero_le _, Nat.le_refl _, rfl, rfl, Own.nil _ _ _ _, Hall.out, fun m _ h1 h2 => by omega, Keeps.refl _ _⟩
 case round =>
  rename_i wr
  obtain ⟨k, j, l, hk, hjk, rfl, rfl, ho, hl, hno, hkp⟩ := hrel
  have Hkp := Lib.hid hkp
  have Hno := Lib.hid hno
  have Hl := Lib.hid hl
  have hll : l.length <= s.size := by
   have h1 : (l ++ pcs (s.extract j s.size)).length <= s.size + 1 := by rw [hl]; exact hpl
   rw [List.length_append] at h1
   have h2 : 0 < (pcs (s.extract j s.size)).length := by
    unfold pcs
    rw [List.length_map]
    exact List.length_pos_iff.2 (pcsL_ne _)
   omega
  have hsz := hkp.size
  clear hkp hno hl
  by_cases hlt : k < s.size
  ·have Hb := Lib.hid (byte_eq s[k] 47 (by decide) (by decide))
   go_wp2_with (at_builtin; refine wpl_append rfl (.tmp 16) (.tmp 21) rfl tStr (ho.keep ((Keeps.refl NoB _).alloc _) (fun _ _ h => h)) (own_lit (S := fun _ => True) [s.extract j k] #[.string (s.extract j k)] rfl 1 rfl trivial (by decide)).sl rfl rfl (by simp; omega) (by simp [maxLen]; omega) (by simp; omega) ?_; intro v' w' ho' hk' hf')
   ·have h : ((s[k].toNat : Int) == 47) = true := by assumption
    rw [Hb.out, decide_eq_true_eq] at h
    have hc : s[k] = 47 := h
    have hcut := pcs_cut s j k hjk hlt hc Hno.out
    go_roundw
    case rel =>
     refine ⟨k + 1, k + 1, l ++ [s.extract j k], by omega, Nat.le_refl _, by go_num, by go_num, ho', ?_, fun m _ h1 h2 => by omega, Hkp.out.alloc _ |>.step hk' (fun g hg => Or.inr (ho.2 g hg))⟩
     rw [<- Hl.out, hcut]
     simp
    case measure => simp [intOf]; omega
   ·have h : ((s[k].toNat : Int) == 47) = false := by assumption
    rw [Hb.out, decide_eq_false_iff_not] at h
    have hc : ¬ s[k] = 47 := h
    go_roundw
    case rel =>
     refine ⟨k + 1, j, l, by omega, by omega, by go_num, rfl, ho, Hl.out, fun m hm h1 h2 => ?_, Hkp.out⟩
     by_cases e : m = k
     ·subst e; exact hc
     ·exact Hno.out m hm h1 (by omega)
    case measure => simp [intOf]; omega
  ·go_wp2_with (at_builtin; refine wpl_append rfl (.tmp 25) (.tmp 29) rfl tStr (ho.keep ((Keeps.refl NoB _).alloc _) (fun _ _ h => h)) (own_lit (S := fun _ => True) [s.extract j s.size] #[.string (s.extract j s.size)] rfl 1 rfl trivial (by decide)).sl rfl rfl (by simp; omega) (by simp [maxLen]; omega) (by simp; omega) ?_; intro v' w' ho' hk' hf')
   go_ret
   refine ⟨_, rfl, ?_, Hkp.out.alloc _ |>.step hk' (fun g hg => Or.inr (ho.2 g hg))⟩
   rw [<- Hl.out, pcs_none s j (by omega) (fun m hm h1 => Hno.out m hm h1 (by omega))]
   exact ho'
theorem endS_last (d : ByteArray) (h : 1 <= d.size) : endS d = decide (d[d.size - 1] = 47) := by
 unfold endS
 rw [List.getElem?_eq_getElem (by rw [len_data]; omega), Bool.eq_iff_iff, decide_eq_true_eq, decide_eq_true_eq]
 exact ⟨fun h => Option.some.inj h.2, fun e => ⟨h, congrArg some e⟩⟩
theorem encoded_any (n : Nat) (hn : n <= 1000000) (w : World) : Calls Tryz.prog 99 #[.int .i64 (n : Int)] w fun e w' => e = .returned (.int .i64 ((uuSize n : Nat) : Int)) ∧ w = w' := by
 have h1 : (n : Int) / 45 = ((n / 45 : Nat) : Int) := by omega
 have h2 : (n : Int) % 45 = ((n % 45 : Nat) : Int) := by omega
 have hq : ((n / 45 : Nat) : Int) <= 100000 := by omega
 have hr : ((n % 45 : Nat) : Int) <= 44 := by omega
 have h0 : (n : Int) <= 1000000 := by omega
 by_cases hp : 0 < n % 45
 ·have hp' : (0 : Int) < ((n % 45 : Nat) : Int) := by omega
  have hu : uuSize n = n / 45 * 62 + ((n % 45 + 2) / 3 * 4 + 2) + 6 := by unfold uuSize; rw [if_pos hp]
  rw [hu]
  generalize n / 45 = q at *
  generalize n % 45 = r at *
  go_enter Tryz.func99, Tryz.ntmps99
  go_wp2
  go_ret
  refine ⟨?_, rfl⟩
  show Ending.returned (Value.int .i64 _) = _
  (congr 2) <;> omega
 ·have hp' : ¬ (0 : Int) < ((n % 45 : Nat) : Int) := by omega
  have hu : uuSize n = n / 45 * 62 + 0 + 6 := by unfold uuSize; rw [if_neg hp]
  rw [hu]
  generalize n / 45 = q at *
  generalize n % 45 = r at *
  go_enter Tryz.func99, Tryz.ntmps99
  go_wp2
  go_ret
  refine ⟨?_, rfl⟩
  show Ending.returned (Value.int .i64 _) = _
  (congr 2) <;> omega
theorem tell_uu (s : ByteArray) (hs : s.size <= 1000000) (w : World) : Calls Tryz.prog 42 #[.int .i64 2, .string s] w fun e w' => e = .returned (.tuple #[.string ⟨(encB s.data.toList).toArray⟩, .int .i64 0]) ∧ Keeps NoB w w' := by
 have HE := Lib.hid (fun w1 : World => enc_any s hs w1)
 generalize (⟨(encB s.data.toList).toArray⟩ : ByteArray) = t at *
 go_enter Tryz.func42, Tryz.ntmps42
 go_wp2_with (go_at_call 70; go_loud (refine (HE.out _).mono ?_); rintro e w1 ⟨rfl, hk1⟩)
 go_ret2
 exact ⟨rfl, hk1⟩
theorem bytes_uu (k : Int) (l : List UInt8) (hl : l.length <= 1000000) (w : World) : Calls Tryz.prog 14 #[.agg #[.int .i64 k, .int .i64 2, .string ⟨(encB l).toArray⟩]] w fun e w' => e = .returned (.tuple #[.string ⟨l.toArray⟩, .int .i64 0]) ∧ Keeps NoB w w' := by
 have HD := Lib.hid (fun w1 : World => dec_any ⟨(encB l).toArray⟩ l (toList_mk _) hl w1)
 generalize (⟨(encB l).toArray⟩ : ByteArray) = t at *
 generalize (⟨l.toArray⟩ : ByteArray) = u at *
 have HK := Lib.hid ((Keeps.refl NoB w).alloc (.cells #[.int .i64 k, .int .i64 2, .string t] 45))
 go_enter Tryz.func14, Tryz.ntmps14
 go_wp2_with (go_at_call 32; go_loud (refine (HD.out _).mono ?_); rintro e w1 ⟨rfl, hk1⟩)
 go_ret2
 exact ⟨rfl, HK.out.trans hk1⟩
theorem order_top {x : Nat} (hx : x < 9218868437227405312) : (FloatKind.f64.format.order x 9218868437227405311 == some .gt) = false := by
 show (Ieee.double.order x 9218868437227405311 == some .gt) = false
 rcases Nat.lt_or_ge x 9218868437227405311 with h | h
 ·rw [order_lt h (by decide)]; rfl
 ·obtain rfl : x = 9218868437227405311 := by omega
  rw [order_eq (by decide)]; rfl
theorem inf_any (w : World) : Calls Tryz.prog 98 #[.int .i64 1] w fun e w' => e = .returned (.float .f64 9218868437227405312) ∧ w = w' := by
 go_enter Tryz.func98, Tryz.ntmps98
 go_wp2
 rw [run_callFunc_extern Tryz.func124 (by kernel_rfl) (by kernel_rfl) (by kernel_rfl) (e := Extern.MathFloatBits.float64frombits) (by kernel_rfl)]
 rw [show (Extern.MathFloatBits.float64frombits #[.int .u64 9218868437227405312]).run Tryz.prog w = .ok (.float .f64 9218868437227405312) w from rfl]
 simp only [Result.andThen]
 rw [Oper.upon_value]
 go_wp2
 go_ret
 exact ⟨rfl, rfl⟩
def encFl : Enc Nat where
 enc := fun r => [.float .f64 r]
 k := 1
 pos := by decide
 len := fun _ => rfl
 one := fun x v hv => by simp at hv; subst hv; rfl
theorem tF64 : ElemT Tryz.prog encFl 88 59 0 8 :=
 .of (.float .f64 0) Tryz.underlying88 (by kernel_rfl) rfl
end Go.Proofs.YtonkgdoaobojbaaGreatDoor
