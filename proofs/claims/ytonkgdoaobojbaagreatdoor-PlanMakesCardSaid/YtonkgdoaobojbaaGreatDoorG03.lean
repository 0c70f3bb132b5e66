/-
  Layer 9: contracts: Encode, of a mode and a name that all parts have.
-/
import Derived.Test.YtonkgdoaobojbaaGreatDoorG02
import Derived.Test.YtonkgdoaobojbaaGreatDoorG01
import Derived.Deep.QuietTactic
import Derived.BigQuiet
import Derived.WalkLawsBesides
import Derived.Laws.Bits64b

set_option linter.unusedSimpArgs false
set_option linter.unusedVariables false
set_option maxRecDepth 100000
set_option maxHeartbeats 8000000
namespace Go.Proofs.YtonkgdoaobojbaaGreatDoor
open Go Go.RowKit
def octC : Nat -> List Value
 | 0 => [.int .u8 0, .int .u8 0, .int .u8 0, .int .u8 0]
 | 1 => [.int .u8 0, .int .u8 0, .int .u8 0, .int .u8 48]
 | 2 => [.int .u8 0, .int .u8 0, .int .u8 48, .int .u8 48]
 | 3 => [.int .u8 0, .int .u8 54, .int .u8 48, .int .u8 48]
 | _ => [.int .u8 48, .int .u8 54, .int .u8 48, .int .u8 48]
theorem octal_384 (w : World) : Calls Tryz.prog 105 #[.int .i64 384] w fun e w' => e = .returned (.string ⟨#[48, 54, 48, 48]⟩) ∧ Keeps NoB w w' := by
 have hb0 : bits .and .i64 384 7 = 0 := by decide
 have hb1 : bits .and .i64 48 7 = 0 := by decide
 have hb2 : bits .and .i64 6 7 = 6 := by decide
 have hb3 : bits .and .i64 0 7 = 0 := by decide
 have hmk : (Instr.makeSlice 58 (.int .i64 4) (.int .i64 4)).run Tryz.prog w = .ok (.slice (some ⟨w.heap.size, 0, none⟩) 4 4) (w.alloc (.cells #[.int .u8 0, .int .u8 0, .int .u8 0, .int .u8 0] 5)) := by
  have h : (Tryz.prog.info? 5).map (fun i => (i.zero, i.size, i.bytes)) = some (some (Value.int .u8 0), 1, 1) := by kernel_rfl
  obtain ⟨i, hi, he⟩ := Option.map_eq_some_iff.1 h
  simp only [Prod.mk.injEq] at he
  obtain ⟨hz, hs, hb⟩ := he
  have := run_makeSlice w 58 5 i (.int .u8 0) Tryz.underlying58 hi hz .i64 .i64 4 4 (by decide) (by decide) (by rw [hs]; decide) (by rw [hb]; decide) (by decide)
  rw [hs, show madeCells (Value.int .u8 0).cells (Int.toNat 4 * 1) = #[.int .u8 0, .int .u8 0, .int .u8 0, .int .u8 0] from by kernel_rfl] at this
  exact this
 have HB := Lib.hid (Bk.new (Keeps.refl NoB (w.alloc (.cells #[.int .u8 0, .int .u8 0, .int .u8 0, .int .u8 0] 5))))
 have HK := Lib.hid ((Keeps.refl NoB w).alloc (.cells #[.int .u8 0, .int .u8 0, .int .u8 0, .int .u8 0] 5))
 go_enter Tryz.func105, Tryz.ntmps105
 go_upto_region 3 with fail
 clear hmk
 generalize w.alloc (.cells #[.int .u8 0, .int .u8 0, .int .u8 0, .int .u8 0] 5) = w1 at *
 go_loopw [8] (fun i wr => ∃ k : Nat, k <= 4 ∧ i = .int .i64 (k : Int) ∧ Bk wr w.heap.size (octC k) ∧ Keeps (fun g => g = w.heap.size) w1 wr) (fun i _ => 5 - (intOf i).toNat)
 case atStart => exact ⟨0, by omega, rfl, HB.out, Keeps.refl _ _⟩
 case round =>
  rename World => wr
  obtain ⟨k, hk, rfl, hb, hkr⟩ := hrel
  have HBr := Lib.hid hb
  have HKr := Lib.hid hkr
  have bf := hb.fz
  have bl := hb.lt
  clear hb hkr
  rcases (show k = 0 ∨ k = 1 ∨ k = 2 ∨ k = 3 ∨ k = 4 by omega) with rfl | rfl | rfl | rfl | rfl
  ·have c0 := HBr.out.cell 3 _ rfl
   have HB2 := Lib.hid (HBr.out.put 3 (.int .u8 48))
   have HK2 := Lib.hid (HKr.out.trans (kset wr ⟨w.heap.size, 3, none⟩ (.int .u8 48)))
   go_wp2
   go_roundw
   case rel => exact ⟨1, by omega, by go_num, HB2.out, HK2.out⟩
   case measure => simp [intOf]
  ·have c0 := HBr.out.cell 2 _ rfl
   have HB2 := Lib.hid (HBr.out.put 2 (.int .u8 48))
   have HK2 := Lib.hid (HKr.out.trans (kset wr ⟨w.heap.size, 2, none⟩ (.int .u8 48)))
   go_wp2
   go_roundw
   case rel => exact ⟨2, by omega, by go_num, HB2.out, HK2.out⟩
   case measure => simp [intOf]
  ·have c0 := HBr.out.cell 1 _ rfl
   have HB2 := Lib.hid (HBr.out.put 1 (.int .u8 54))
   have HK2 := Lib.hid (HKr.out.trans (kset wr ⟨w.heap.size, 1, none⟩ (.int .u8 54)))
   go_wp2
   go_roundw
   case rel => exact ⟨3, by omega, by go_num, HB2.out, HK2.out⟩
   case measure => simp [intOf]
  ·have c0 := HBr.out.cell 0 _ rfl
   have HB2 := Lib.hid (HBr.out.put 0 (.int .u8 48))
   have HK2 := Lib.hid (HKr.out.trans (kset wr ⟨w.heap.size, 0, none⟩ (.int .u8 48)))
   go_wp2
   go_roundw
   case rel => exact ⟨4, by omega, by go_num, HB2.out, HK2.out⟩
   case measure => simp [intOf]
  ·have hcv := run_convert_bytes_back (P := Tryz.prog) wr 58 9 5 ⟨w.heap.size, 0, none⟩ 4 [48, 54, 48, 48] Tryz.underlying58 Tryz.underlying5 Tryz.underlying9 (fun j hj => by
    rw [add_lit, Nat.zero_add]
    match j, hj with
    | 0, _ => exact HBr.out.cell 0 _ rfl
    | 1, _ => exact HBr.out.cell 1 _ rfl
    | 2, _ => exact HBr.out.cell 2 _ rfl
    | 3, _ => exact HBr.out.cell 3 _ rfl
    | j + 4, hj => exact absurd hj (by simp))
   simp only [List.length_cons, List.length_nil, Nat.zero_add, Nat.reduceAdd] at hcv
   go_wp2
   go_ret
   exact ⟨rfl, (HK.out.of_none (F := NoB)).step HKr.out (fun g hg => .inr (by rw [hg]; exact Nat.le_refl _))⟩
theorem right_384 (w : World) : Calls Tryz.prog 94 #[.int .i64 384] w fun e w' => e = .returned (.bool true) ∧ w = w' := by
 go_enter Tryz.func94, Tryz.ntmps94
 go_wp2
 go_ret
 exact ⟨rfl, rfl⟩
theorem pathRight_x (w : World) : Calls Tryz.prog 81 #[.string ⟨#[120]⟩] w fun e w' => e = .returned (.bool true) ∧ w = w' := by
 have HI := Lib.hid (fun wx => ib_any ⟨#[120]⟩ 0 wx)
 rw [show bIdx (⟨#[120]⟩ : ByteArray) ((0 : Int)).toNat.toUInt8 = -1 by decide] at HI
 go_enter Tryz.func81, Tryz.ntmps81
 go_wp2_with (go_at_call 104; go_loud (refine (HI.out _).mono ?_); rintro e w3 ⟨rfl, rfl⟩)
 go_ret
 exact ⟨rfl, rfl⟩
def encB (l : List UInt8) : List UInt8 := [98, 101, 103, 105, 110, 32, 54, 48, 48, 32, 120, 10] ++ uuRest l
theorem uuSize_le (n : Nat) : uuSize n <= 2 * n + 100 := by
 unfold uuSize
 split <;> omega
theorem encB_len (l : List UInt8) : (encB l).length <= 2 * l.length + 200 := by
 unfold encB
 rw [List.length_append, uuRest_len]
 have := uuSize_le l.length
 show 12 + _ <= _
 omega
theorem enc_any (s : ByteArray) (hs : s.size <= 1000000) (w : World) :
 Calls Tryz.prog 70 #[.int .i64 384, .string ⟨#[120]⟩, .string s] w fun e w' => e = .returned (.tuple #[.string ⟨(encB s.data.toList).toArray⟩, .int .i64 0]) ∧ Keeps NoB w w' := by
 obtain ⟨l, hl⟩ : ∃ l, s.data.toList = l := ⟨_, rfl⟩
 have hz : l.length <= 1000000 := by rw [<- hl, len_data]; exact hs
 have HEl := Lib.hid (encB_len l)
 rw [hl]
 have HR := Lib.hid (fun w1 : World => right_384 w1)
 have HP := Lib.hid (fun w1 : World => pathRight_x w1)
 have HI := Lib.hid (fun wx => ib_any ⟨#[120]⟩ 10 wx)
 rw [show bIdx (⟨#[120]⟩ : ByteArray) ((10 : Int)).toNat.toUInt8 = -1 by decide] at HI
 have HO := Lib.hid (fun w1 : World => octal_384 w1)
 have HB0 := Lib.hid (BA.new (S := fun g => w.heap.size < g) w (Nat.lt_irrefl _))
 have HK0 := Lib.hid ((Keeps.refl NoB w).alloc (.cells #[.pointer none, .slice none 0 0] 98))
 have HL : Hid (s.data.toList = l) := hl
 have hex : (⟨#[48, 54, 48, 48]⟩ : ByteArray).extract 1 4 = ⟨#[54, 48, 48]⟩ := by decide
 clear hl
 go_enter Tryz.func70, Tryz.ntmps70
 go_upto_region 7 with (first | (go_at_call 94; go_loud (refine (HR.out _).mono ?_); rintro e w1 ⟨rfl, rfl⟩) | (go_at_call 81; go_loud (refine (HP.out _).mono ?_); rintro e w1 ⟨rfl, rfl⟩) | (go_at_call 104; go_loud (refine (HI.out _).mono ?_); rintro e w3 ⟨rfl, rfl⟩) | (go_at_call 105; go_loud (refine (HO.out _).mono ?_); rintro e w4 ⟨rfl, hk4⟩; have HB4 := Lib.hid (HB0.out.on hk4); have HK4 := Lib.hid (HK0.out.trans hk4)) | (go_at_call 53; go_loud (refine (sbWriteString_any HB4.out (fun g hg => by have h1 := HB4.out.lt; show w.heap.size < g; omega) _ (by simp [ByteArray.size]; try omega)).mono ?_); rintro e w5 ⟨rfl, hb5, hk5⟩; have HB5 := Lib.hid hb5; have HK5 := Lib.hid (HK4.out.step hk5 (fun g hg => .inr (by rcases hg with h | h <;> omega)))))
 have HM5 : Hid (w.heap.size < w5.heap.size) := HB5.out.lt
 clear HR HP HI HO HB0 HK0 HB4 HK4 hex hk4 hk5 hb5
 go_loopw [2, 9] (fun x _ wr => ∃ (r : ByteArray) (dn : List UInt8), x = .string r ∧ dn ++ uuRest r.data.toList = encB l ∧ BA (fun g => w.heap.size < g) wr w.heap.size dn ∧ Keeps NoB w wr ∧ w.heap.size < wr.heap.size) (fun x _ _ => match x with | .string r => r.size | _ => 0)
 case atStart => exact ⟨s, _, rfl, by rw [HL.out]; rfl, HB5.out, HK5.out, HM5.out⟩
 case round =>
  rename World => wr
  obtain ⟨r, dn, rfl, heq, hba, hkr, hmr⟩ := hrel
  have HE := Lib.hid heq
  have HB := Lib.hid hba
  have HK := Lib.hid hkr
  have HM := Lib.hid hmr
  have hlen : dn.length + (uuRest r.data.toList).length <= 2000300 := by
   have h1 := congrArg List.length heq
   rw [List.length_append] at h1
   have h2 := HEl.out
   omega
  have HLen := Lib.hid hlen
  have hrz : r.size <= 100000000 := by
   have h3 := uuRest_len r.data.toList
   rw [len_data] at h3
   unfold uuSize at h3
   split at h3 <;> omega
  clear heq hba hkr hmr hlen
  by_cases h0 : r.size = 0
  ·obtain rfl : r = ⟨#[]⟩ := ba_eq (List.length_eq_zero_iff.1 (by rw [len_data]; exact h0))
   have HLn := Lib.hid (fun w1 : World => uuline_any ⟨#[]⟩ (by decide) w1)
   have HE2 : Hid (dn ++ [96, 10, 101, 110, 100, 10] = encB l) := Lib.hid (by rw [<- HE.out]; rw [show uuRest ((⟨#[]⟩ : ByteArray).data.toList) = [96, 10, 101, 110, 100, 10] from uuRest_nil])
   go_wp2_with (first | (go_at_call 106; go_loud (refine (HLn.out _).mono ?_); rintro e w6 ⟨rfl, hk6⟩; have HB6 := Lib.hid (HB.out.on hk6); have HK6 := Lib.hid (HK.out.trans hk6); have HM6 : Hid (w.heap.size < w6.heap.size) := HB6.out.lt) | (go_at_call 53; refine (sbWriteString_any HB6.out (fun g hg => by have h1 := HK6.out.size; have h2 := HM.out; have h3 := HM6.out; show w.heap.size < g; omega) _ ?_).mono ?_; (focus (have h4 := HLen.out; rw [show (uuRest ((⟨#[]⟩ : ByteArray).data.toList)) = [96, 10, 101, 110, 100, 10] from uuRest_nil] at h4; show dn.length + 6 <= 4294967296; simp only [List.length_cons, List.length_nil] at h4; omega)); rintro e w7 ⟨rfl, hb7, hk7⟩; have HB7 := Lib.hid hb7; have HM7 : Hid (w.heap.size < w7.heap.size) := HB7.out.lt; have HK7 := Lib.hid (HK6.out.step hk7 (fun g hg => .inr (by rcases hg with h | h <;> omega)))) | (go_at_call 54; go_loud (refine (sbString_any (B := w.heap.size) HB7.out (fun g hg => Nat.le_of_lt hg) (Nat.le_refl _) (Nat.le_of_lt HM7.out)).mono ?_); rintro e w8 ⟨rfl, hk8⟩))
   go_ret2
   refine ⟨?_, HK7.out.step hk8 (fun g hg => .inr hg)⟩
   rw [<- HE2.out]
   rfl
  by_cases h45 : r.size <= 45
  ·have h45' : ¬ (45 : Int) < (r.size : Int) := by omega
   have hmin : min (r.size : Int) 45 = (r.size : Int) := by omega
   obtain ⟨x, hx⟩ : ∃ x, r.extract 0 r.size = x := ⟨_, rfl⟩
   obtain ⟨y, hy⟩ : ∃ y, r.extract r.size r.size = y := ⟨_, rfl⟩
   have hxs : x.size <= 45 := by rw [<- hx, ByteArray.size_extract]; omega
   have hxd : x.data.toList = r.data.toList.take 45 := by
    rw [<- hx, data_extract, List.drop_zero]
    rw [List.take_of_length_le (by rw [len_data]; exact Nat.le_refl _), List.take_of_length_le (by rw [len_data]; exact h45)]
   have hyd : y.data.toList = r.data.toList.drop 45 := by
    rw [<- hy, data_extract, List.take_of_length_le (by rw [len_data]; exact Nat.le_refl _)]
    rw [List.drop_of_length_le (by rw [len_data]; exact Nat.le_refl _), List.drop_of_length_le (by rw [len_data]; exact h45)]
   have hys : y.size < r.size := by rw [<- hy, ByteArray.size_extract]; omega
   have HY := Lib.hid hys
   have hne : r.data.toList ≠ [] := fun e => h0 (by rw [<- len_data, e]; rfl)
   have HE2 : Hid ((dn ++ uuLine x.data.toList) ++ uuRest y.data.toList = encB l) := Lib.hid (by rw [<- HE.out, uuRest_step hne, hxd, hyd, List.append_assoc])
   have HLn := Lib.hid (fun w1 : World => uuline_any x hxs w1)
   have hul : (uuLine x.data.toList).length <= 70 := by rw [uuLine_len, len_data]; omega
   have HUl := Lib.hid hul
   have hr0 : r.toList.isEmpty = false := by
    rw [Lib.toList_data]
    rcases h : r.data.toList with _ | _
    ·exact absurd h hne
    ·rfl
   have hy0 : y = ByteArray.empty := ba_eq (by rw [hyd, List.drop_of_length_le (by rw [len_data]; exact h45)]; rfl)
   clear hxd hyd hys hul hne
   clear hy
   subst hy0
   go_wp2_with (first | (go_at_call 106; go_loud (refine (HLn.out _).mono ?_); rintro e w6 ⟨rfl, hk6⟩; have HB6 := Lib.hid (HB.out.on hk6); have HK6 := Lib.hid (HK.out.trans hk6); have HM6 : Hid (w.heap.size < w6.heap.size) := HB6.out.lt) | (go_at_call 53; refine (sbWriteString_any HB6.out (fun g hg => by have h1 := HK6.out.size; have h2 := HM.out; have h3 := HM6.out; show w.heap.size < g; omega) _ ?_).mono ?_; (focus (have h4 := HLen.out; have h5 := HUl.out; show dn.length + (uuLine x.data.toList).toArray.size <= 4294967296; rw [List.size_toArray]; omega)); rintro e w7 ⟨rfl, hb7, hk7⟩; have HB7 := Lib.hid hb7; have HM7 : Hid (w.heap.size < w7.heap.size) := HB7.out.lt; have HK7 := Lib.hid (HK6.out.step hk7 (fun g hg => .inr (by rcases hg with h | h <;> omega)))))
   go_roundw
   case rel => exact ⟨_, _, rfl, HE2.out, HB7.out, HK7.out, HM7.out⟩
   case measure => exact HY.out
  ·have h45' : (45 : Int) < (r.size : Int) := by omega
   have hmin : min (r.size : Int) 45 = 45 := by omega
   obtain ⟨x, hx⟩ : ∃ x, r.extract 0 45 = x := ⟨_, rfl⟩
   obtain ⟨y, hy⟩ : ∃ y, r.extract 45 r.size = y := ⟨_, rfl⟩
   have hxs : x.size <= 45 := by rw [<- hx, ByteArray.size_extract]; omega
   have hxd : x.data.toList = r.data.toList.take 45 := by
    rw [<- hx, data_extract, List.drop_zero]
        
   have hyd : y.data.toList = r.data.toList.drop 45 := by
    rw [<- hy, data_extract, List.take_of_length_le (by rw [len_data]; exact Nat.le_refl _)]
        
   have hys : y.size < r.size := by rw [<- hy, ByteArray.size_extract]; omega
   have HY := Lib.hid hys
   have hne : r.data.toList ≠ [] := fun e => h0 (by rw [<- len_data, e]; rfl)
   have HE2 : Hid ((dn ++ uuLine x.data.toList) ++ uuRest y.data.toList = encB l) := Lib.hid (by rw [<- HE.out, uuRest_step hne, hxd, hyd, List.append_assoc])
   have HLn := Lib.hid (fun w1 : World => uuline_any x hxs w1)
   have hul : (uuLine x.data.toList).length <= 70 := by rw [uuLine_len, len_data]; omega
   have HUl := Lib.hid hul
   have hr0 : r.toList.isEmpty = false := by
    rw [Lib.toList_data]
    rcases h : r.data.toList with _ | _
    ·exact absurd h hne
    ·rfl
   clear hxd hyd hys hul hne
   go_wp2_with (first | (go_at_call 106; go_loud (refine (HLn.out _).mono ?_); rintro e w6 ⟨rfl, hk6⟩; have HB6 := Lib.hid (HB.out.on hk6); have HK6 := Lib.hid (HK.out.trans hk6); have HM6 : Hid (w.heap.size < w6.heap.size) := HB6.out.lt) | (go_at_call 53; refine (sbWriteString_any HB6.out (fun g hg => by have h1 := HK6.out.size; have h2 := HM.out; have h3 := HM6.out; show w.heap.size < g; omega) _ ?_).mono ?_; (focus (have h4 := HLen.out; have h5 := HUl.out; show dn.length + (uuLine x.data.toList).toArray.size <= 4294967296; rw [List.size_toArray]; omega)); rintro e w7 ⟨rfl, hb7, hk7⟩; have HB7 := Lib.hid hb7; have HM7 : Hid (w.heap.size < w7.heap.size) := HB7.out.lt; have HK7 := Lib.hid (HK6.out.step hk7 (fun g hg => .inr (by rcases hg with h | h <;> omega)))))
   go_roundw
   case rel => exact ⟨_, _, rfl, HE2.out, HB7.out, HK7.out, HM7.out⟩
   case measure => exact HY.out
theorem toList_mk (l : List UInt8) : (⟨l.toArray⟩ : ByteArray).data.toList = l := by simp
theorem append_toList (a b : ByteArray) : (a ++ b).data.toList = a.data.toList ++ b.data.toList := by
 rw [ByteArray.data_append, Array.toList_append]
set_option maxHeartbeats 1000000 in
theorem pieces_any (s : ByteArray) (w : World) (hs : s.size < 4294967281) :
 Calls Tryz.prog 72 #[.string s] w fun e w' =>
  ∃ v, e = .returned v ∧ Own encStr 9 (fun g => w.heap.size <= g) w' v (pcs s) ∧ Keeps NoB w w' := by
 have hpl := pcs_length s
 have hall : pcs (s.extract 0 s.size) = pcs s := by rw [extract_all]
 have Hall := Lib.hid hall
 clear hall
 go_enter Tryz.func72, Tryz.ntmps72
 go_wp2
 go_loopw [3, 4, 5] (fun o f i wr => ∃ k j : Nat, ∃ l : List ByteArray, k <= s.size ∧ j <= k ∧ i = .int .i64 k ∧ f = .int .i64 j ∧ Own encStr 9 (fun g => w.heap.size <= g) wr o l ∧ l ++ pcs (s.extract j s.size) = pcs s ∧
  (∀ (m : Nat) (h : m < s.size), j <= m -> m < k -> ¬ s[m] = 47) ∧ Keeps NoB w wr) (fun _ _ i _ => s.size - (intOf i).toNat)
 case atStart => exact ⟨0, 0, [], Nat.zero_le _, Nat.le_refl _, rfl, rfl, Own.nil _ _ _ _, Hall.out, fun m _ h1 h2 => by omega, Keeps.refl _ _⟩
 case round =>
  rename_i wr
  obtain ⟨k, j, l, hk, hjk, rfl, rfl, ho, hl, hno, hkp⟩ := hrel
  have Hkp := Lib.hid hkp
  have Hno := Lib.hid hno
  have Hl := Lib.hid hl
  have hll : l.length <= s.size := by
   have h1 : (l ++ pcs (s.extract j s.size)).length <= s.size + 1 := by rw [hl]; exact hpl
   rw [List.length_append] at h1
   have h2 : 0 < (pcs (s.extract j s.size)).length := by
    unfold pcs
    rw [List.length_map]
    exact List.length_pos_iff.2 (pcsL_ne _)
   omega
  have hsz := hkp.size
  clear hkp hno hl
  by_cases hlt : k < s.size
  ·have Hb := Lib.hid (byte_eq s[k] 47 (by decide) (by decide))
   go_wp2_with (at_builtin; refine wpl_append rfl (.tmp 16) (.tmp 21) rfl tStr (ho.keep ((Keeps.refl NoB _).alloc _) (fun _ _ h => h)) (own_lit (S := fun _ => True) [s.extract j k] #[.string (s.extract j k)] rfl 1 rfl trivial (by decide)).sl rfl rfl (by simp; omega) (by simp [maxLen]; omega) (by simp; omega) ?_; intro v' w' ho' hk' hf')
   ·have h : ((s[k].toNat : Int) == 47) = true := by assumption
    rw [Hb.out, decide_eq_true_eq] at h
    have hc : s[k] = 47 := h
    have hcut := pcs_cut s j k hjk hlt hc Hno.out
    go_roundw
    case rel =>
     refine ⟨k + 1, k + 1, l ++ [s.extract j k], by omega, Nat.le_refl _, by go_num, by go_num, ho', ?_, fun m _ h1 h2 => by omega, Hkp.out.alloc _ |>.step hk' (fun g hg => Or.inr (ho.2 g hg))⟩
     rw [<- Hl.out, hcut]
     simp
    case measure => simp [intOf]; omega
   ·have h : ((s[k].toNat : Int) == 47) = false := by assumption
    rw [Hb.out, decide_eq_false_iff_not] at h
    have hc : ¬ s[k] = 47 := h
    go_roundw
    case rel =>
     refine ⟨k + 1, j, l, by omega, by omega, by go_num, rfl, ho, Hl.out, fun m hm h1 h2 => ?_, Hkp.out⟩
     by_cases e : m = k
     ·subst e; exact hc
     ·exact Hno.out m hm h1 (by omega)
    case measure => simp [intOf]; omega
  ·go_wp2_with (at_builtin; refine wpl_append rfl (.tmp 25) (.tmp 29) rfl tStr (ho.keep ((Keeps.refl NoB _).alloc _) (fun _ _ h => h)) (own_lit (S := fun _ => True) [s.extract j s.size] #[.string (s.extract j s.size)] rfl 1 rfl trivial (by decide)).sl rfl rfl (by simp; omega) (by simp [maxLen]; omega) (by simp; omega) ?_; intro v' w' ho' hk' hf')
   go_ret
   refine ⟨_, rfl, ?_, Hkp.out.alloc _ |>.step hk' (fun g hg => Or.inr (ho.2 g hg))⟩
   rw [<- Hl.out, pcs_none s j (by omega) (fun m hm h1 => Hno.out m hm h1 (by omega))]
   exact ho'
theorem endS_last (d : ByteArray) (h : 1 <= d.size) : endS d = decide (d[d.size - 1] = 47) := by
 unfold endS
 rw [List.getElem?_eq_getElem (by rw [len_data]; omega), Bool.eq_iff_iff, decide_eq_true_eq, decide_eq_true_eq]
 exact ⟨fun h => Option.some.inj h.2, fun e => ⟨h, congrArg some e⟩⟩
theorem encoded_any (n : Nat) (hn : n <= 1000000) (w : World) : Calls Tryz.prog 99 #[.int .i64 (n : Int)] w fun e w' => e = .returned (.int .i64 ((uuSize n : Nat) : Int)) ∧ w = w' := by
 have h1 : (n : Int) / 45 = ((n / 45 : Nat) : Int) := by omega
 have h2 : (n : Int) % 45 = ((n % 45 : Nat) : Int) := by omega
 have hq : ((n / 45 : Nat) : Int) <= 100000 := by omega
 have hr : ((n % 45 : Nat) : Int) <= 44 := by omega
 have h0 : (n : Int) <= 1000000 := by omega
 by_cases hp : 0 < n % 45
 ·have hp' : (0 : Int) < ((n % 45 : Nat) : Int) := by omega
  have hu : uuSize n = n / 45 * 62 + ((n % 45 + 2) / 3 * 4 + 2) + 6 := by unfold uuSize; rw [if_pos hp]
  rw [hu]
  generalize n / 45 = q at *
  generalize n % 45 = r at *
  go_enter Tryz.func99, Tryz.ntmps99
  go_wp2
  go_ret
  refine ⟨?_, rfl⟩
  show Ending.returned (Value.int .i64 _) = _
  (congr 2) <;> omega
 ·have hp' : ¬ (0 : Int) < ((n % 45 : Nat) : Int) := by omega
  have hu : uuSize n = n / 45 * 62 + 0 + 6 := by unfold uuSize; rw [if_neg hp]
  rw [hu]
  generalize n / 45 = q at *
  generalize n % 45 = r at *
  go_enter Tryz.func99, Tryz.ntmps99
  go_wp2
  go_ret
  refine ⟨?_, rfl⟩
  show Ending.returned (Value.int .i64 _) = _
  (congr 2) <;> omega
theorem tell_uu (s : ByteArray) (hs : s.size <= 1000000) (w : World) : Calls Tryz.prog 42 #[.int .i64 2, .string s] w fun e w' => e = .returned (.tuple #[.string ⟨(encB s.data.toList).toArray⟩, .int .i64 0]) ∧ Keeps NoB w w' := by
 have HE := Lib.hid (fun w1 : World => enc_any s hs w1)
 generalize (⟨(encB s.data.toList).toArray⟩ : ByteArray) = t at *
 go_enter Tryz.func42, Tryz.ntmps42
 go_wp2_with (go_at_call 70; go_loud (refine (HE.out _).mono ?_); rintro e w1 ⟨rfl, hk1⟩)
 go_ret2
 exact ⟨rfl, hk1⟩
theorem order_top {x : Nat} (hx : x < 9218868437227405312) : (FloatKind.f64.format.order x 9218868437227405311 == some .gt) = false := by
 show (Ieee.double.order x 9218868437227405311 == some .gt) = false
 rcases Nat.lt_or_ge x 9218868437227405311 with h | h
 ·rw [order_lt h (by decide)]; rfl
 ·obtain rfl : x = 9218868437227405311 := by omega
  rw [order_eq (by decide)]; rfl
theorem inf_any (w : World) : Calls Tryz.prog 98 #[.int .i64 1] w fun e w' => e = .returned (.float .f64 9218868437227405312) ∧ w = w' := by
 go_enter Tryz.func98, Tryz.ntmps98
 go_wp2
 rw [run_callFunc_extern Tryz.func124 (by kernel_rfl) (by kernel_rfl) (by kernel_rfl) (e := Extern.MathFloatBits.float64frombits) (by kernel_rfl)]
 rw [show (Extern.MathFloatBits.float64frombits #[.int .u64 9218868437227405312]).run Tryz.prog w = .ok (.float .f64 9218868437227405312) w from rfl]
 simp only [Result.andThen]
 rw [Oper.upon_value]
 go_wp2
 go_ret
 exact ⟨rfl, rfl⟩
def encFl : Enc Nat where
 enc := fun r => [.float .f64 r]
 k := 1
 pos := by decide
 len := fun _ => rfl
 one := fun x v hv => by simp at hv; subst hv; rfl
theorem tF64 : ElemT Tryz.prog encFl 88 59 0 8 :=
 .of (.float .f64 0) Tryz.underlying88 (by kernel_rfl) rfl
end Go.Proofs.YtonkgdoaobojbaaGreatDoor
namespace Go.Proofs.YtonkgdoaobojbaaGreatDoor
open Go Go.RowKit Ieee
theorem and_top {x : Nat} (hx : x < 9223372036854775808) : bits .and .u64 (x : Int) 9223372036854775808 = 0 := by
 have e : x &&& 2 ^ 63 = 0 := Nat.eq_of_testBit_eq fun i => by
  rw [Nat.testBit_and, Nat.testBit_two_pow, Nat.zero_testBit]
  by_cases h : 63 = i
  ·subst h
   rw [Nat.testBit_lt_two_pow (by rw [show (2 : Nat) ^ 63 = 9223372036854775808 by decide]; exact hx)]
   rfl
  ·simp [h]
 rw [show (9223372036854775808 : Int) = ((9223372036854775808 : Nat) : Int) from rfl, bits_and_u64_nat _ _ (by omega) (by decide), show (9223372036854775808 : Nat) = 2 ^ 63 by decide, e]
 rfl
theorem or_top {x : Nat} (hx : x < 9223372036854775808) : bits .or .u64 (x : Int) 9223372036854775808 = ((x + 9223372036854775808 : Nat) : Int) := by
 have e : x ||| 9223372036854775808 = x + 9223372036854775808 := by
  have := Nat.two_pow_add_eq_or_of_lt (i := 63) (b := x) (by rw [show (2 : Nat) ^ 63 = 9223372036854775808 by decide]; exact hx) 1
  rw [Nat.mul_one, show (2 : Nat) ^ 63 = 9223372036854775808 by decide] at this
  rw [Nat.or_comm, <- this, Nat.add_comm]
 rw [show (9223372036854775808 : Int) = ((9223372036854775808 : Nat) : Int) from rfl, bits_or_u64_nat _ _ (by omega) (by decide), e]
def nanW : Nat := 9221120237041090561
def okW (x : Nat) : Prop := x <= 9218868437227405312 ∨ x = nanW
theorem order_nan (y : Nat) : double.order nanW y = none := by
 show (double.read nanW).order (double.read y) = none
 have h : ∃ b n, double.read nanW = .nan b n := ⟨_, _, rfl⟩
 obtain ⟨b, n, h⟩ := h
 rw [h]
 rfl
theorem isNaN_ok (x : Nat) (hx : okW x) (w : World) : Calls Tryz.prog 69 #[.float .f64 x] w fun e w' => e = .returned (.bool (decide (9218868437227405312 < x))) ∧ w = w' := by
 have ho : (FloatKind.f64.format.order x x != some .eq) = decide (9218868437227405312 < x) := by
  show (double.order x x != some .eq) = _
  rcases hx with hx | rfl
  ·rw [order_eq hx, decide_eq_false (Nat.not_lt.2 hx)]; rfl
  ·rw [order_nan]; decide
 generalize decide (9218868437227405312 < x) = b at *
 go_enter Tryz.func69, Tryz.ntmps69
 go_wp2
 go_ret
 exact ⟨rfl, rfl⟩
theorem isInf_ok (x : Nat) (hx : okW x) (w : World) : Calls Tryz.prog 68 #[.float .f64 x, .int .i64 1] w fun e w' => e = .returned (.bool (decide (x = 9218868437227405312))) ∧ w = w' := by
 have ho : (FloatKind.f64.format.order x 9218868437227405311 == some .gt) = decide (x = 9218868437227405312) := by
  show (double.order x 9218868437227405311 == some .gt) = _
  rcases hx with hx | rfl
  ·by_cases he : x = 9218868437227405312
   ·subst he
    rw [order_gt (by decide) (by decide)]; decide
   ·rw [decide_eq_false he]
    exact order_top (by omega)
  ·rw [order_nan]; decide
 generalize decide (x = 9218868437227405312) = b at *
 go_enter Tryz.func68, Tryz.ntmps68
 cases b
 all_goals
  go_wp2
  go_ret
  exact ⟨rfl, rfl⟩
def rkW (x : Nat) : Nat := if x <= 9218868437227405312 then x + 9223372036854775808 else 18446744073709551615
theorem rkW_lt {x y : Nat} (hx : okW x) (hy : okW y) : (rkW x < rkW y) ↔ x < y := by
 unfold okW nanW at hx hy
 unfold rkW
 split <;> split <;> omega
theorem rank_any (x : Nat) (hx : okW x) (w : World) : Calls Tryz.prog 129 #[.float .f64 x] w fun e w' => e = .returned (.int .u64 ((rkW x : Nat) : Int)) ∧ w = w' := by
 have HN := Lib.hid (fun w1 : World => isNaN_ok x hx w1)
 by_cases hx' : x <= 9218868437227405312
 ·rw [decide_eq_false (Nat.not_lt.2 hx')] at HN
  have h1 := and_top (x := x) (by omega)
  have h2 := or_top (x := x) (by omega)
  rw [show rkW x = x + 9223372036854775808 by unfold rkW; rw [if_pos hx']]
  obtain ⟨y, hy⟩ : ∃ y, x + 9223372036854775808 = y := ⟨_, rfl⟩
  rw [hy] at h2 ⊢
  clear hy hx hx'
  go_enter Tryz.func129, Tryz.ntmps129
  go_wp2_with (go_at_call 69; go_loud (refine (HN.out _).mono ?_); rintro e w1 ⟨rfl, rfl⟩)
  rw [run_callFunc_extern Tryz.func125 (by kernel_rfl) (by kernel_rfl) (by kernel_rfl) (e := Extern.MathFloatBits.float64bits) (by kernel_rfl)]
  rw [show (Extern.MathFloatBits.float64bits #[.float .f64 x]).run Tryz.prog w = .ok (.int .u64 (x : Int)) w from rfl]
  simp only [Result.andThen]
  rw [Oper.upon_value]
  go_wp2
  go_ret
  exact ⟨rfl, rfl⟩
 ·rw [decide_eq_true (Nat.lt_of_not_le hx')] at HN
  rw [show rkW x = 18446744073709551615 by unfold rkW; rw [if_neg hx']]
  clear hx hx'
  go_enter Tryz.func129, Tryz.ntmps129
  go_wp2_with (go_at_call 69; go_loud (refine (HN.out _).mono ?_); rintro e w1 ⟨rfl, rfl⟩)
  go_ret
  exact ⟨rfl, rfl⟩
theorem less_any (x y : Nat) (hx : okW x) (hy : okW y) (w : World) : Calls Tryz.prog 102 #[.float .f64 x, .float .f64 y] w fun e w' => e = .returned (.bool (decide (x < y))) ∧ w = w' := by
 have HX := Lib.hid (fun w1 : World => rank_any x hx w1)
 have HY := Lib.hid (fun w1 : World => rank_any y hy w1)
 have hd : decide (x < y) = decide (((rkW x : Nat) : Int) < ((rkW y : Nat) : Int)) := decide_eq_decide.2 (by rw [<- rkW_lt hx hy]; omega)
 rw [hd]
 generalize rkW x = x1 at *
 generalize rkW y = y1 at *
 clear hx hy hd
 go_enter Tryz.func102, Tryz.ntmps102
 go_wp2_with (go_at_call 129; first | (with_reducible refine (HX.out _).mono ?_; rintro e w1 ⟨rfl, rfl⟩) | (with_reducible refine (HY.out _).mono ?_; rintro e w2 ⟨rfl, rfl⟩))
 go_ret
 exact ⟨ret_bool (by simp), rfl⟩
end Go.Proofs.YtonkgdoaobojbaaGreatDoor
namespace Go.Proofs.YtonkgdoaobojbaaGreatDoor
open Go Go.RowKit
def leastK (l : List Nat) : Nat -> Option Nat
 | 0 => none
 | k + 1 => match leastK l k with
   | none => some k
   | some b => if l.getD k 0 < l.getD b 0 then some k else some b
def leastI : Option Nat -> Int
 | none => -1
 | some b => b
theorem leastK_lt (l : List Nat) : ∀ k b, leastK l k = some b -> b < k
 | 0, b, h => by cases h
 | k + 1, b, h => by
   unfold leastK at h
   split at h
   ·cases h; omega
   ·next b' hb =>
    have := leastK_lt l k b' hb
    split at h
    ·cases h; omega
    ·cases h; omega
theorem leastK_some (l : List Nat) : ∀ k, 0 < k -> ∃ b, leastK l k = some b
 | k + 1, _ => by
   unfold leastK
   split
   ·exact ⟨_, rfl⟩
   ·split <;> exact ⟨_, rfl⟩
theorem SlAt.fl {S : Nat -> Prop} {w : World} {p : Option Addr} {c : Nat} {l : List Nat} (h : SlAt encFl S w p c l) {i : Nat} {x : Nat} (hi : l[i]? = some x) :
 ∃ g off, p = some ⟨g, off, none⟩ ∧ S g ∧ g < w.heap.size ∧ w.cell? ⟨g, off + i, none⟩ = some (.float .f64 x) := by
 obtain ⟨g, off, hp, hS, hg, hc⟩ := h.at hi
 refine ⟨g, off, hp, hS, hg, ?_⟩
 have := hc 0 _ rfl
 rwa [Nat.add_zero, show encFl.k = 1 from rfl, Nat.mul_one] at this
theorem least_any (l : List Nat) (w : World) {S : Nat -> Prop} {p : Option Addr} {c : Nat} (hS : SlAt encFl S w p c l) (hl : ∀ (i : Nat) x, l[i]? = some x -> okW x) :
 Calls Tryz.prog 67 #[.slice p l.length c] w fun e w' => e = .returned (.int .i64 (leastI (leastK l l.length))) ∧ w = w' := by
 have hcap := hS.cap
 have hmax := hS.max
 unfold maxLen at hmax
 have HS := Lib.hid hS
 have HLs := Lib.hid (fun (x y : Nat) (hx : okW x) (hy : okW y) (w1 : World) => less_any x y hx hy w1)
 have HL := Lib.hid hl
 clear hS hl
 go_enter Tryz.func67, Tryz.ntmps67
 go_wp2
 go_loop [3, 8] (fun b i => ∃ k : Nat, k <= l.length ∧ i = .int .i64 (k : Int) ∧ b = .int .i64 (leastI (leastK l k))) (fun _ i => l.length + 1 - (intOf i).toNat)
 case atStart => exact ⟨0, Nat.zero_le _, rfl, rfl⟩
 case round =>
  obtain ⟨k, hk, rfl, rfl⟩ := hrel
  by_cases hlt : k < l.length
  ·obtain ⟨x, hx⟩ : ∃ x, l[k]? = some x := ⟨_, List.getElem?_eq_getElem hlt⟩
   have hxd : l.getD k 0 = x := by simp [List.getD, hx]
   obtain ⟨g, off, rfl, _, hg, c0⟩ := HS.out.fl hx
   rcases Nat.eq_zero_or_pos k with rfl | hk0
   ·have HN : Hid (leastI (leastK l (0 + 1)) = 0) := Lib.hid rfl
    simp only [show leastI (leastK l 0) = -1 from rfl]
    simp only [Nat.add_zero] at c0
    have hl0 : (0 : Int) < (l.length : Int) := by omega
    go_wp2
    go_round
    case rel => exact ⟨1, by omega, by go_num, congrArg (Value.int .i64) HN.out.symm⟩
    case measure => (simp [intOf]) <;> omega
   ·obtain ⟨b, hb⟩ := leastK_some l k hk0
    have hbk := leastK_lt l k b hb
    obtain ⟨y, hy⟩ : ∃ y, l[b]? = some y := ⟨_, List.getElem?_eq_getElem (by omega)⟩
    have hyd : l.getD b 0 = y := by simp [List.getD, hy]
    obtain ⟨g', off', he, _, _, c1⟩ := HS.out.fl hy
    cases he
    have HLx := Lib.hid (fun w1 : World => HLs.out x y (HL.out k x hx) (HL.out b y hy) w1)
    have hbl : (b : Int) < (l.length : Int) := by omega
    have hb0 : ¬ (b : Int) < 0 := by omega
    rw [hb]
    simp only [show leastI (some b) = (b : Int) from rfl]
    by_cases hxy : x < y
    ·have HN : Hid (leastI (leastK l (k + 1)) = (k : Int)) := Lib.hid (by rw [leastK, hb]; simp only; rw [hxd, hyd, if_pos hxy]; rfl)
     rw [decide_eq_true hxy] at HLx
     clear hx hy hxd hyd hb hxy
     go_wp2_with (go_at_call 102; go_loud (refine (HLx.out _).mono ?_); rintro e w1 ⟨rfl, rfl⟩)
     go_round
     case rel => exact ⟨k + 1, by omega, by go_num, congrArg (Value.int .i64) HN.out.symm⟩
     case measure => (simp [intOf]) <;> omega
    ·have HN : Hid (leastI (leastK l (k + 1)) = (b : Int)) := Lib.hid (by rw [leastK, hb]; simp only; rw [hxd, hyd, if_neg hxy]; rfl)
     rw [decide_eq_false hxy] at HLx
     clear hx hy hxd hyd hb hxy
     go_wp2_with (go_at_call 102; go_loud (refine (HLx.out _).mono ?_); rintro e w1 ⟨rfl, rfl⟩)
     go_round
     case rel => exact ⟨k + 1, by omega, by go_num, congrArg (Value.int .i64) HN.out.symm⟩
     case measure => (simp [intOf]) <;> omega
  ·obtain rfl : k = l.length := by omega
   go_wp2
   go_ret
   exact ⟨rfl, rfl⟩
end Go.Proofs.YtonkgdoaobojbaaGreatDoor
namespace Go.Proofs.YtonkgdoaobojbaaGreatDoor
def txC (b : UInt8) : Bool := decide (b = 9) || decide (b = 10) || (decide (32 <= b.toNat) && decide (b.toNat <= 126))
def txL (l : List UInt8) : Bool := l.all txC && decide (l.getLast? = some 10)
def txB (s : ByteArray) : Bool := txL s.data.toList
def lastI (s : ByteArray) (c : UInt8) : Nat -> Int
 | 0 => -1
 | k + 1 => if s.data.toList[k]? = some c then (k : Int) else lastI s c k
theorem lastI_range (s : ByteArray) (c : UInt8) : ∀ n, -1 <= lastI s c n ∧ lastI s c n < n
 | 0 => ⟨(show (-1 : Int) <= -1 by decide), (show (-1 : Int) < ((0 : Nat) : Int) by decide)⟩
 | k + 1 => by
   have := lastI_range s c k
   unfold lastI
   split <;> constructor <;> omega
theorem lastI_extract (s : ByteArray) (c : UInt8) (N : Nat) (hN : N <= s.size) : ∀ n, n <= N -> lastI (s.extract 0 N) c n = lastI s c n
 | 0, _ => rfl
 | k + 1, h => by
   have ih := lastI_extract s c N hN k (by omega)
   unfold lastI
   rw [ih]
   have : (s.extract 0 N).data.toList[k]? = s.data.toList[k]? := by
    rw [ByteArray.data_extract, Array.toList_extract]
    simp only [List.extract_eq_take_drop, List.drop_zero, Nat.sub_zero]
    rw [List.getElem?_take, if_pos (by omega)]
   rw [this]
def fstN (s : ByteArray) : Nat :=
 if 0 <= lastI s 10 (min s.size 20000) ∧ txB (s.extract 0 ((lastI s 10 (min s.size 20000)).toNat + 1)) = true then (lastI s 10 (min s.size 20000)).toNat + 1 else min s.size 20000
theorem fstN_range (s : ByteArray) (h : 1 <= s.size) : 1 <= fstN s ∧ fstN s <= s.size ∧ fstN s <= 20000 := by
 have := lastI_range s 10 (min s.size 20000)
 unfold fstN
 split <;> (refine ⟨?_, ?_, ?_⟩ <;> omega)
def cutsN : Nat -> ByteArray -> List ByteArray
 | 0, _ => []
 | k + 1, s => if s.size = 0 then [] else s.extract 0 (fstN s) :: cutsN k (s.extract (fstN s) s.size)
def cuts (s : ByteArray) : List ByteArray := cutsN s.size s
theorem cutsN_more : ∀ (k j : Nat) (s : ByteArray), s.size <= k -> s.size <= j -> cutsN k s = cutsN j s
 | 0, 0, _, _, _ => rfl
 | 0, j + 1, s, h, _ => by unfold cutsN; rw [if_pos (by omega)]
 | k + 1, 0, s, _, h => by unfold cutsN; rw [if_pos (by omega)]
 | k + 1, j + 1, s, h1, h2 => by
   unfold cutsN
   by_cases h0 : s.size = 0
   ·rw [if_pos h0, if_pos h0]
   ·rw [if_neg h0, if_neg h0]
    have := fstN_range s (by omega)
    rw [cutsN_more k j _ (by rw [ByteArray.size_extract]; omega) (by rw [ByteArray.size_extract]; omega)]
theorem cuts_nil {s : ByteArray} (h : s.size = 0) : cuts s = [] := by unfold cuts; rw [h]; rfl
theorem cuts_step {s : ByteArray} (h : 1 <= s.size) : cuts s = s.extract 0 (fstN s) :: cuts (s.extract (fstN s) s.size) := by
 have hr := fstN_range s h
 unfold cuts
 obtain ⟨k, hk⟩ : ∃ k, s.size = k + 1 := ⟨s.size - 1, by omega⟩
 have hz : (s.extract (fstN s) s.size).size = s.size - fstN s := by rw [ByteArray.size_extract]; omega
 rw [show cutsN s.size s = cutsN (k + 1) s by rw [hk]]
 rw [show cutsN (k + 1) s = if s.size = 0 then [] else s.extract 0 (fstN s) :: cutsN k (s.extract (fstN s) s.size) from rfl, if_neg (by omega)]
 rw [cutsN_more k (s.extract (fstN s) s.size).size _ (by omega) (Nat.le_refl _)]
end Go.Proofs.YtonkgdoaobojbaaGreatDoor
