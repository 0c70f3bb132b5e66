/-
  Layer 10: the walk of FormWidths.
-/
import Derived.Test.YtokpmakhhhlbkaaDoorZFormE2

set_option linter.unusedSimpArgs false
set_option linter.unusedVariables false

set_option maxRecDepth 100000
set_option maxHeartbeats 8000000
namespace Go.Proofs.YtokpmakhhhlbkaaDoor
open Go Go.RowKit

theorem widths_any (s : ByteArray) (width : Int) (left : Bool) (w : World) (hdb : DbOk w) : Calls Tryd.prog 3 #[.string s, .int .i64 width, .bool left] w fun e w' => e = .returned (.bool true) ∧ Keeps NoB w w' := by
  have HA := Lib.hid (anchor10_any w hdb)
  by_cases hs : 500 < s.size
  · have hz : (500 : Int) < (s.size : Int) := by omega
    clear hdb
    go_enter Tryd.func3, Tryd.ntmps3
    go_wp2_with (go_at_call 6; go_loud (refine HA.out.mono ?_); rintro e w4 ⟨rfl, hk4⟩)
    go_ret
    exact ⟨rfl, hk4⟩
  have hz : ¬ (500 : Int) < (s.size : Int) := by omega
  by_cases h1 : width < 0
  · clear hdb
    go_enter Tryd.func3, Tryd.ntmps3
    go_wp2_with (go_at_call 6; go_loud (refine HA.out.mono ?_); rintro e w4 ⟨rfl, hk4⟩)
    go_ret
    exact ⟨rfl, hk4⟩
  by_cases h2 : 999 < width
  · clear hdb
    go_enter Tryd.func3, Tryd.ntmps3
    go_wp2_with (go_at_call 6; go_loud (refine HA.out.mono ?_); rintro e w4 ⟨rfl, hk4⟩)
    go_ret
    exact ⟨rfl, hk4⟩
  obtain ⟨n, hn⟩ : ∃ n : Nat, width = n := ⟨width.toNat, by omega⟩
  subst hn
  obtain ⟨-, -, -, -, -, -, -, b1, b2, b3⟩ := wN_facts ⟨n, by omega⟩
  simp only at b1 b2 b3
  obtain ⟨d, hd⟩ : ∃ d : ByteArray, ⟨(wD n).toArray⟩ = d := ⟨_, rfl⟩
  have hds : d.size = 3 := by rw [← hd]; rfl
  have hcv : ∀ wx : World, (convert 23 9 (.slice (some ⟨wx.heap.size, 0, none⟩) 3 3)).run Tryd.prog (wx.alloc (.cells #[.int .u8 (48 + (n : Int) / 100), .int .u8 (48 + (n : Int) / 10 % 10), .int .u8 (48 + (n : Int) % 10)] 5)) = .ok (.string d) (wx.alloc (.cells #[.int .u8 (48 + (n : Int) / 100), .int .u8 (48 + (n : Int) / 10 % 10), .int .u8 (48 + (n : Int) % 10)] 5)) := fun wx => by
    have hB := Bk.new (Keeps.refl NoB (wx.alloc (.cells #[.int .u8 (48 + (n : Int) / 100), .int .u8 (48 + (n : Int) / 10 % 10), .int .u8 (48 + (n : Int) % 10)] 5)))
    rw [← hd]
    exact run_convert_bytes_back (P := Tryd.prog) _ 23 9 5 ⟨wx.heap.size, 0, none⟩ 3 (wD n) Tryd.underlying23 Tryd.underlying5 Tryd.underlying9 (fun j hj => by
      match j, hj with
      | 0, _ => exact (hB.cell 0 _ rfl).trans (congrArg (fun z => some (Value.int .u8 z)) (show 48 + (n : Int) / 100 = ((UInt8.ofNat (48 + n / 100)).toNat : Int) by rw [b1]; omega))
      | 1, _ => exact (hB.cell 1 _ rfl).trans (congrArg (fun z => some (Value.int .u8 z)) (show 48 + (n : Int) / 10 % 10 = ((UInt8.ofNat (48 + n / 10 % 10)).toNat : Int) by rw [b2]; omega))
      | 2, _ => exact (hB.cell 2 _ rfl).trans (congrArg (fun z => some (Value.int .u8 z)) (show 48 + (n : Int) % 10 = ((UInt8.ofNat (48 + n % 10)).toNat : Int) by rw [b3]; omega)))
  have hl : s.data.toList.length = s.size := len_data s
  have HF := Lib.hid (fun (lf : Bool) (f : ByteArray) (hf : f.data.toList = 37 :: ((if lf then [45] else []) ++ wD n ++ [115])) (wx : World) (hx : DbOk wx) =>
    format_fok (sl_new wx [s] 9 (by simp) (by simp)) (wid_all lf n (by omega) s f (by omega) hf) (by have := congrArg List.length hf; rw [len_data] at this; rw [this]; cases lf <;> simp [wD]) (by rw [padL_len]; omega) (.inr (by simp)) (by decide) (hx.on ((Keeps.refl _ _).alloc _)))
  have HFx : Hid (∀ (lf : Bool) (f : ByteArray) (hf : f.data.toList = 37 :: ((if lf then [45] else []) ++ wD n ++ [115])) (wx : World) (hx : DbOk wx),
      Calls Tryd.prog 7 #[.string f, .slice (some ⟨wx.heap.size, 0, none⟩) 1 1] (wx.alloc (.cells #[.string s] 9)) fun e w' => e = .returned (.tuple #[.string ⟨(padL lf n s.data.toList).toArray⟩, .int .i64 0]) ∧ Keeps NoB (wx.alloc (.cells #[.string s] 9)) w') := Lib.hid (fun lf f hf wx hx => HF.out lf f hf wx hx)
  replace HF := HFx
  clear HFx
  have HDB := Lib.hid hdb
  clear hdb b1 b2 b3
  cases left with
  | true =>
    obtain ⟨t, ht⟩ : ∃ t : ByteArray, ⟨(padL true n s.data.toList).toArray⟩ = t := ⟨_, rfl⟩
    have hts : t.size = max n s.size := by rw [← ht, ← hl, ← padL_len true n]; show (padL true n s.data.toList).toArray.size = _; simp
    have hcut : t.extract 0 s.size = s := by
      apply ba_eq
      rw [data_extract, ← ht, ← hl]
      simpa using padL_take n s.data.toList
    have HF2 := Lib.hid (fun wx hx => HF.out true (⟨#[37, 45]⟩ ++ (d ++ ⟨#[115]⟩)) (by rw [← hd]; simp) wx hx)
    rw [ht] at HF2
    clear ht HF hd hl
    go_enter Tryd.func3, Tryd.ntmps3
    go_upto_region 9 with (go_at_call 6; go_loud (refine HA.out.mono ?_); rintro e w1 ⟨rfl, hk1⟩)
    have HF3 := Lib.hid (HF2.out _ (HDB.out.on (hk1.alloc (.cells #[.int .u8 (48 + (n : Int) / 100), .int .u8 (48 + (n : Int) / 10 % 10), .int .u8 (48 + (n : Int) % 10)] 5))))
    have e1 : (w1.alloc (.cells #[.int .u8 (48 + (n : Int) / 100), .int .u8 (48 + (n : Int) / 10 % 10), .int .u8 (48 + (n : Int) % 10)] 5)).heap.size = w1.heap.size + 1 := by simp
    rw [e1] at HF3
    have HK1 := Lib.hid hk1
    clear HF2 hcv hk1 e1
    have hm1 : ((t.size : Int) != max (n : Int) (s.size : Int)) = false := by rw [bne_eq_false_iff_eq, hts]; omega
    have hle : s.size ≤ t.size := by omega
    clear hts
    go_wp2_with (go_at_call 7; go_loud (refine HF3.out.mono ?_); rintro e w4 ⟨rfl, hk4⟩; have HK4 := Lib.hid hk4; clear hk4)
    go_ret
    exact ⟨rfl, ((HK1.out.alloc _).alloc _).trans HK4.out⟩
  | false =>
    obtain ⟨t, ht⟩ : ∃ t : ByteArray, ⟨(padL false n s.data.toList).toArray⟩ = t := ⟨_, rfl⟩
    have hts : t.size = max n s.size := by rw [← ht, ← hl, ← padL_len false n]; show (padL false n s.data.toList).toArray.size = _; simp
    have hcut : t.extract (t.size - s.size) t.size = s := by
      apply ba_eq
      rw [sub_list, hts, ← hl, ← ht]
      simpa using padL_drop n s.data.toList
    have HF2 := Lib.hid (fun wx hx => HF.out false (⟨#[37]⟩ ++ (d ++ ⟨#[115]⟩)) (by rw [← hd]; simp) wx hx)
    rw [ht] at HF2
    clear ht HF hd hl
    go_enter Tryd.func3, Tryd.ntmps3
    go_upto_region 9 with (go_at_call 6; go_loud (refine HA.out.mono ?_); rintro e w1 ⟨rfl, hk1⟩)
    have HF3 := Lib.hid (HF2.out _ (HDB.out.on (hk1.alloc (.cells #[.int .u8 (48 + (n : Int) / 100), .int .u8 (48 + (n : Int) / 10 % 10), .int .u8 (48 + (n : Int) % 10)] 5))))
    have e1 : (w1.alloc (.cells #[.int .u8 (48 + (n : Int) / 100), .int .u8 (48 + (n : Int) / 10 % 10), .int .u8 (48 + (n : Int) % 10)] 5)).heap.size = w1.heap.size + 1 := by simp
    rw [e1] at HF3
    have HK1 := Lib.hid hk1
    clear HF2 hcv hk1 e1
    have hm1 : ((t.size : Int) != max (n : Int) (s.size : Int)) = false := by rw [bne_eq_false_iff_eq, hts]; omega
    have hle : s.size ≤ t.size := by omega
    obtain ⟨k, hk⟩ : ∃ k, t.size - s.size = k := ⟨_, rfl⟩
    rw [hk] at hcut
    have hwr : wrap64 ((t.size : Int) - (s.size : Int)) = (k : Int) := by rw [show (t.size : Int) - (s.size : Int) = (k : Int) by omega]; exact IntWalk.wrap64_in _ (by omega)
    have hkt : k ≤ t.size := by omega
    clear hts hk hle
    go_wp2_with (go_at_call 7; go_loud (refine HF3.out.mono ?_); rintro e w4 ⟨rfl, hk4⟩; have HK4 := Lib.hid hk4; clear hk4)
    go_ret
    exact ⟨rfl, ((HK1.out.alloc _).alloc _).trans HK4.out⟩

end Go.Proofs.YtokpmakhhhlbkaaDoor
