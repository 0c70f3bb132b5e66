/-
  Layer 22: contracts: head and tail of an input.
-/
import Derived.Test.YtkdfgkbojbdelaaGreatDoorG02
import Derived.Test.YtkdfgkbojbdelaaGreatDoorG01
import Derived.Test.YtkdfgkbojbdelaaGreatDoorProg
import Derived.Shelf.Strconv.ParseIntPublic10
import Derived.Shelf.Strconv.Itoa4
import Derived.BigRegion
import Derived.Lib.SlBytesConst
import Derived.Deep.RegionHeld3
import Derived.BigQuiet
import Derived.Test.YtkdfgkbojbdelaaGreatDoorRows
import Derived.LaidSub
import Derived.OpenShut
import Derived.Lib.LaidTab
import Derived.ProofKit
import Derived.ShutString
import Derived.ChangeOld
import Derived.Deep.Slices
import Derived.Deep.Fields

set_option linter.unusedSimpArgs false
set_option linter.unusedVariables false
set_option maxRecDepth 100000
set_option maxHeartbeats 4000000
namespace Go.Proofs.YtkdfgkbojbdelaaGreatDoor
open Go Go.RowKit
def inOf (s : ByteArray) : Value := .iface 27 (.agg #[.string s, .int .i64 0, .slice none 0 0])
theorem input_any (s : ByteArray) (w : World) : Calls Tryz.prog 180 #[.agg #[.string s, .int .i64 0, .slice none 0 0]] w fun e w' => e = .returned (.tuple #[.string s, .int .i64 0]) ∧ Keeps NoB w w' := by
 go_enter Tryz.func180, Tryz.ntmps180
 go_wp2
 go_ret2
 exact ⟨rfl, (Keeps.refl _ _).alloc _⟩
set_option maxHeartbeats 8000000
theorem T10.at0 {w : World} (h : T10 w) : w.cell? ⟨3, 0, none⟩ = some (.int .u64 1) := by
 have := Lib.TabIs.cell h (show Tryz.prog.globalNamed "internal/strconv.uint64pow10" = some 3 by kernel_rfl) 0 (by decide)
 rw [this]
 rfl
theorem T10.keep {F : Nat -> Prop} {w w' : World} (h : T10 w) (k : Keeps F w w') (hF : ¬ F 3) : T10 w' := by
 have hlt : 3 < w.heap.size := lt_of_cell h.at0
 unfold T10 Lib.TabIs World.var? at *
 rw [show Tryz.prog.globalNamed "internal/strconv.uint64pow10" = some 3 by kernel_rfl] at h ⊢
 simp only [Option.bind_some] at h ⊢
 rw [k.block _ hlt hF]
 exact h
theorem T10.ne {w : World} (h : T10 w) {A : Nat} {z : Int} {r : List Value} (hA : Bk w A (.int .i64 z :: r)) : ¬ 3 = A := by
 intro e
 have h0 := hA.cell 0 _ rfl
 rw [<- e, h.at0] at h0
 cases h0
theorem tell_c (s : ByteArray) (hs : s.size <= 1000000) (w : World) (A T Lb K : Nat) (hA : Bk w A (accX 0)) (hT : Bk w T [.int .i64 0]) (hL : Bk w Lb [lineF K]) (hK : Bk w K [.string ⟨#[99]⟩]) (ht : As22 w) (h10 : T10 w) (n1 : T ≠ A) (n2 : Lb ≠ A) (n3 : K ≠ A) (n4 : Lb ≠ T) (n5 : K ≠ T) :
 Calls Tryz.prog 36 #[.string s, .string ⟨#[]⟩, .pointer (some ⟨A, 0, none⟩), .pointer (some ⟨T, 0, none⟩), .pointer (some ⟨Lb, 0, none⟩)] w fun e w' => e = .returned (.string (decB s.size ++ ⟨#[10]⟩)) ∧ Keeps (fun g => g = A ∨ g = T) w w' ∧ Bk w' T [.int .i64 1] := by
 have HC := Lib.hid (fun w1 : World => count_nl s w1)
 have HW := Lib.hid (fun w1 (k : Keeps NoB w w1) => words_any s w1 hs (ht.on k))
 have H10 := Lib.hid h10
 obtain ⟨lc, hlc⟩ : ∃ lc, Lib.countByte s.data.toList 10 = lc := ⟨_, rfl⟩
 rw [hlc] at HC
 have NA0 := h10.ne hA
 have NT0 := h10.ne hT
 clear hlc h10
 have HA := Lib.hid hA
 have HT := Lib.hid hT
 have HL := Lib.hid hL
 have HK := Lib.hid hK
 have N1 := Lib.hid n1
 have N2 := Lib.hid n2
 have N3 := Lib.hid n3
 have N4 := Lib.hid n4
 have N5 := Lib.hid n5
 clear hA hT hL hK ht n1 n2 n3 n4 n5
 go_enter Tryz.func36, Tryz.ntmps36
 go_upto_region 3 with (first | (go_at_call 37; go_loud (refine (HC.out _).mono ?_); rintro e w1 ⟨rfl, rfl⟩) | (go_at_call 38; go_loud (refine (HW.out _ (Keeps.refl _ _)).mono ?_); rintro e w2 ⟨nw, rfl, hk2⟩))
 have ka : Keeps NoB w2 (w2.alloc (.cells #[.int .i64 lc, .int .i64 (nw : Int), .int .i64 (s.size : Int)] 70)) := (Keeps.refl _ _).alloc _
 have HN := Lib.hid (Bk.new (Keeps.refl NoB (w2.alloc (.cells #[.int .i64 lc, .int .i64 (nw : Int), .int .i64 (s.size : Int)] 70))))
 have HK3 := Lib.hid (hk2.trans ka)
 have NA : Hid (A ≠ w2.heap.size) := by
  show A ≠ w2.heap.size
  have := HA.out.lt
  have := hk2.size
  omega
 have HNB : Hid (w.heap.size <= w2.heap.size) := Lib.hid hk2.size
 clear hk2 ka HC HW
 generalize w2.alloc (.cells #[.int .i64 lc, .int .i64 (nw : Int), .int .i64 (s.size : Int)] 70) = w3 at *
 generalize w2.heap.size = NB at *
 go_loopw [17] (fun i wr => ∃ k : Nat, k <= 3 ∧ i = .int .i64 k ∧ (∃ a0 a1 a2 : Int, Bk wr A [.int .i64 a0, .int .i64 a1, .int .i64 a2]) ∧ Keeps (fun g => g = A) w3 wr) (fun i _ => 4 - (intOf i).toNat)
 case atStart => exact ⟨0, by omega, rfl, ⟨0, 0, 0, HA.out.on HK3.out⟩, Keeps.refl _ _⟩
 case round =>
  obtain ⟨k, hk, rfl, ⟨a0v, a1v, a2v, hb⟩, hk4⟩ := hrel
  have HB := Lib.hid hb
  have HK4 := Lib.hid hk4
  have HNr := Lib.hid (HN.out.keep hk4 (fun e => NA.out e.symm))
  clear hb hk4
  rcases (show k = 0 ∨ k = 1 ∨ k = 2 ∨ k = 3 by omega) with rfl | rfl | rfl | rfl
  ·have a0 := HB.out.cell 0 _ rfl
   have m0 := HNr.out.cell 0 _ rfl
   have af := HB.out.fz 0
   have al := HB.out.lt
   have ml := HNr.out.lt
   go_upto_region 5 with fail
   go_region
   all_goals
    go_wp2
    go_roundw
    case rel => exact ⟨1, by omega, by go_num, ⟨_, _, _, (HB.out.put 0 (.int .i64 _)).on (Keeps.refl _ _).drew⟩, (HK4.out.trans (kset wr ⟨A, 0, none⟩ (.int .i64 _))).drew⟩
    case measure => simp [intOf]
  ·have a0 := HB.out.cell 1 _ rfl
   have m0 := HNr.out.cell 1 _ rfl
   have af := HB.out.fz 1
   have al := HB.out.lt
   have ml := HNr.out.lt
   go_upto_region 5 with fail
   go_region
   all_goals
    go_wp2
    go_roundw
    case rel => exact ⟨2, by omega, by go_num, ⟨_, _, _, (HB.out.put 1 (.int .i64 _)).on (Keeps.refl _ _).drew⟩, (HK4.out.trans (kset wr ⟨A, 1, none⟩ (.int .i64 _))).drew⟩
    case measure => simp [intOf]
  ·have a0 := HB.out.cell 2 _ rfl
   have m0 := HNr.out.cell 2 _ rfl
   have af := HB.out.fz 2
   have al := HB.out.lt
   have ml := HNr.out.lt
   go_upto_region 5 with fail
   go_region
   all_goals
    go_wp2
    go_roundw
    case rel => exact ⟨3, by omega, by go_num, ⟨_, _, _, (HB.out.put 2 (.int .i64 _)).on (Keeps.refl _ _).drew⟩, (HK4.out.trans (kset wr ⟨A, 2, none⟩ (.int .i64 _))).drew⟩
    case measure => simp [intOf]
  ·have HTr := Lib.hid ((HT.out.on HK3.out).keep HK4.out N1.out)
   have HLr := Lib.hid ((HL.out.on HK3.out).keep HK4.out N2.out)
   have HKr := Lib.hid ((HK.out.on HK3.out).keep HK4.out N3.out)
   have k5 := kset wr ⟨T, 0, none⟩ (.int .i64 1)
   have NT : Hid (NB ≠ T) := by
    show NB ≠ T
    have h1 := HT.out.lt
    have h2 := HNB.out
    omega
   have HL5 := HLr.out.keep k5 N4.out
   have HN5 := HNr.out.keep k5 NT.out
   have HLn := Lib.hid (line_c _ K lc (nw : Int) s.size hs (((H10.out.on HK3.out).keep HK4.out NA0).keep k5 NT0) (HKr.out.keep k5 N5.out))
   have HT5 := Lib.hid (HTr.out.put 0 (.int .i64 1))
   have HK5 := Lib.hid (((HK3.out.of_none (F := fun g => g = A ∨ g = T)).trans (HK4.out.mono (fun g _ hg => .inl hg))).trans (k5.mono (fun g _ hg => .inr hg)))
   have t0 := HTr.out.cell 0 _ rfl
   have tf := HTr.out.fz 0
   have tl := HTr.out.lt
   have l0 := HL5.cell 0 _ rfl
   have ll := HL5.lt
   have m0 := HN5.cell 0 _ rfl
   have m1 := HN5.cell 1 _ rfl
   have m2 := HN5.cell 2 _ rfl
   have ml := HN5.lt
   unfold lineF at l0
   clear k5 HL5 HN5
   go_wp2_with (go_at_call 34; go_loud (refine HLn.out.mono ?_); rintro e w6 ⟨rfl, hk6⟩)
   go_ret
   exact ⟨rfl, HK5.out.trans hk6.of_none, HT5.out.on hk6⟩
theorem each_wc (s : ByteArray) (hs : s.size <= 1000000) (w : World) (A T Lb K : Nat) (p : Option Addr) (c : Nat) (hA : Bk w A (accX 0)) (hT : Bk w T [.int .i64 0]) (hL : Bk w Lb [lineF K]) (hK : Bk w K [.string ⟨#[99]⟩]) (ht : As22 w) (h10 : T10 w) (n1 : T ≠ A) (n2 : Lb ≠ A) (n3 : K ≠ A) (n4 : Lb ≠ T) (n5 : K ≠ T) :
 Calls Tryz.prog 14 #[.string ⟨#[119, 99]⟩, .slice p 0 c, inOf s, tellF A T Lb] w fun e w' => e = .returned (.agg #[.string (decB s.size ++ ⟨#[10]⟩), .string ⟨#[]⟩, .int .i64 0]) ∧ Keeps (fun g => g = A ∨ g = T) w w' ∧ Bk w' T [.int .i64 1] := by
 have k1 : Keeps NoB w (w.alloc (.cells #[.string ⟨#[]⟩, .string ⟨#[]⟩, .int .i64 0] 31)) := (Keeps.refl _ _).alloc _
 have k2 : Keeps NoB (w.alloc (.cells #[.string ⟨#[]⟩, .string ⟨#[]⟩, .int .i64 0] 31)) ((w.alloc (.cells #[.string ⟨#[]⟩, .string ⟨#[]⟩, .int .i64 0] 31)).alloc (.cells #[.string ⟨#[]⟩, .string ⟨#[]⟩, .int .i64 0] 31)) := (Keeps.refl _ _).alloc _
 have HR0 := Lib.hid (Bk.new k2)
 have HK2 := Lib.hid (k1.trans k2)
 have HIn := Lib.hid (fun w1 : World => input_any s w1)
 have HAl := Lib.hid hA.lt
 have HTl := Lib.hid hT.lt
 have HTell : Hid (∀ w4 : World, Keeps NoB w w4 -> Calls Tryz.prog 36 #[.string s, .string ⟨#[]⟩, .pointer (some ⟨A, 0, none⟩), .pointer (some ⟨T, 0, none⟩), .pointer (some ⟨Lb, 0, none⟩)] w4 fun e w' => e = .returned (.string (decB s.size ++ ⟨#[10]⟩)) ∧ Keeps (fun g => g = A ∨ g = T) w4 w' ∧ Bk w' T [.int .i64 1]) := Lib.hid fun w4 k => tell_c s hs w4 A T Lb K (hA.on k) (hT.on k) (hL.on k) (hK.on k) (ht.on k) (h10.on k) n1 n2 n3 n4 n5
 clear k1 k2 hA hT hL hK ht h10 n1 n2 n3 n4 n5
 generalize decB s.size ++ ⟨#[10]⟩ = t at *
 unfold tellF inOf
 go_enter Tryz.func14, Tryz.ntmps14
 go_wp2_with (first | (go_at_call 180; go_loud (refine (HIn.out _).mono ?_); rintro e w4 ⟨rfl, hk4⟩) | (go_at_call 36; go_loud (refine (HTell.out _ (HK2.out.trans hk4)).mono ?_); rintro e w5 ⟨rfl, hk5, hb5⟩; have HB5 := Lib.hid hb5; have HN0 : Hid (¬ (w.heap.size = A ∨ w.heap.size = T) ∧ ¬ T = w.heap.size) := (by have h1 := HAl.out; have h2 := HTl.out; show _ ∧ _; omega); have hb := (HR0.out.on hk4).keep hk5 HN0.out.1; have r0 := hb.cell 0 _ rfl; have r1 := hb.cell 1 _ rfl; have r2 := hb.cell 2 _ rfl; have rf := hb.fz; have rl := hb.lt; clear hb5))
 refine bodyPost_ret (v := .agg #[.string t, .string ⟨#[]⟩, .int .i64 0]) ?_ rfl ?_
 ·rw [results_cell_oneF rfl]; go_simp
 have k6 := (kset w5 ⟨w.heap.size, 0, none⟩ (.string t)).trans (kset _ ⟨w.heap.size, 1, none⟩ (.string ⟨#[]⟩))
 have k7 := k6.trans (kset _ ⟨w.heap.size, 2, none⟩ (.int .i64 0))
 refine ⟨rfl, ?_, HB5.out.keep k7 HN0.out.2⟩
 exact (((HK2.out.trans hk4).of_none (F := fun g => g = A ∨ g = T)).trans hk5).step k7 (fun g hg => .inr (Nat.le_of_eq hg.symm))
theorem sums_any (s : ByteArray) (w : World) (hs : s.size <= 1000000) (h10 : T10 w) :
 Calls Tryz.prog 16 #[.string s, .string ⟨#[]⟩] w fun e w' => e = .returned (.string (lineB s ++ ⟨#[10]⟩)) ∧ Keeps NoB w w' := by
 have HL := Lib.hid (line_any s w hs h10)
 have hz : (lineB s).size <= 100 := by
  unfold lineB
  rw [ByteArray.size_append, ByteArray.size_append, decB_size, decB_size]
  have h1 := nd20 (crcOf s) (Nat.lt_trans (crcOf_lt s) (by decide))
  have h2 := nd20 s.size (by omega)
  show _ + 1 + _ <= 100
  omega
 have HE : Hid (lineB s ++ (⟨#[]⟩ : ByteArray) = lineB s) := Lib.hid (ba_eq (by simp))
 clear h10
 generalize lineB s = x at *
 go_enter Tryz.func16, Tryz.ntmps16
 go_wp2_with (go_at_call 32; go_loud (refine HL.out.mono ?_); rintro e w1 ⟨rfl, hk1⟩)
 go_ret
 refine ⟨?_, hk1⟩
 show Ending.returned (Value.string _) = _
 rw [HE.out]
theorem each_sums (s : ByteArray) (hs : s.size <= 1000000) (w : World) (h10 : T10 w) :
 Calls Tryz.prog 14 #[.string ⟨#[99, 107, 115, 117, 109]⟩, .slice none 0 0, inOf s, .func (.func 16) #[] #[]] w fun e w' => e = .returned (.agg #[.string (lineB s ++ ⟨#[10]⟩), .string ⟨#[]⟩, .int .i64 0]) ∧ Keeps NoB w w' := by
 have k1 : Keeps NoB w (w.alloc (.cells #[.string ⟨#[]⟩, .string ⟨#[]⟩, .int .i64 0] 31)) := (Keeps.refl _ _).alloc _
 have k2 : Keeps NoB (w.alloc (.cells #[.string ⟨#[]⟩, .string ⟨#[]⟩, .int .i64 0] 31)) ((w.alloc (.cells #[.string ⟨#[]⟩, .string ⟨#[]⟩, .int .i64 0] 31)).alloc (.cells #[.string ⟨#[]⟩, .string ⟨#[]⟩, .int .i64 0] 31)) := (Keeps.refl _ _).alloc _
 have HR0 := Lib.hid (Bk.new k2)
 have HK2 := Lib.hid (k1.trans k2)
 have HIn := Lib.hid (fun w1 : World => input_any s w1)
 have HTell := Lib.hid (fun (w4 : World) (k : Keeps NoB w w4) => sums_any s w4 hs (h10.on k))
 clear k1 k2 h10
 generalize lineB s ++ ⟨#[10]⟩ = t at *
 unfold inOf
 go_enter Tryz.func14, Tryz.ntmps14
 go_wp2_with (first | (go_at_call 180; go_loud (refine (HIn.out _).mono ?_); rintro e w4 ⟨rfl, hk4⟩) | (go_at_call 16; go_loud (refine (HTell.out _ (HK2.out.trans hk4)).mono ?_); rintro e w5 ⟨rfl, hk5⟩; have hb := (HR0.out.on hk4).on hk5; have r0 := hb.cell 0 _ rfl; have r1 := hb.cell 1 _ rfl; have r2 := hb.cell 2 _ rfl; have rf := hb.fz; have rl := hb.lt))
 refine bodyPost_ret (v := .agg #[.string t, .string ⟨#[]⟩, .int .i64 0]) ?_ rfl ?_
 ·rw [results_cell_oneF rfl]; go_simp
 refine ⟨rfl, ?_⟩
 have k := (HK2.out.trans hk4).trans hk5
 exact ((k.step (kset _ ⟨w.heap.size, 0, none⟩ _) (fun g hg => .inr (Nat.le_of_eq hg.symm))).step (kset _ ⟨w.heap.size, 1, none⟩ _) (fun g hg => .inr (Nat.le_of_eq hg.symm))).step (kset _ ⟨w.heap.size, 2, none⟩ _) (fun g hg => .inr (Nat.le_of_eq hg.symm))
theorem cksum_any (s : ByteArray) (hs : s.size <= 1000000) (w : World) (h10 : T10 w) :
 Calls Tryz.prog 6 #[.string ⟨#[99, 107, 115, 117, 109]⟩, .slice none 0 0, inOf s] w fun e w' => e = .returned (.agg #[.string (lineB s ++ ⟨#[10]⟩), .string ⟨#[]⟩, .int .i64 0]) ∧ Keeps NoB w w' := by
 have ka : Keeps NoB w (w.alloc (.cells #[.string ⟨#[]⟩, .string ⟨#[]⟩, .int .i64 0] 31)) := (Keeps.refl _ _).alloc _
 have HC := Lib.hid (each_sums s hs _ (h10.on ka))
 clear h10 ka
 generalize lineB s ++ ⟨#[10]⟩ = t at *
 go_enter Tryz.func6, Tryz.ntmps6
 go_wp2_with (go_at_call 14; go_loud (refine HC.out.mono ?_); rintro e w1 ⟨rfl, hk1⟩; have hb := Bk.new hk1; have r0 := hb.cell 0 _ rfl; have r1 := hb.cell 1 _ rfl; have r2 := hb.cell 2 _ rfl; have rf := hb.fz; have rl := hb.lt)
 refine bodyPost_ret (v := .agg #[.string t, .string ⟨#[]⟩, .int .i64 0]) ?_ rfl ?_
 ·rw [results_cell_oneF rfl]; go_simp
 refine ⟨rfl, ?_⟩
 have k := (((Keeps.refl NoB w).alloc (.cells #[.string ⟨#[]⟩, .string ⟨#[]⟩, .int .i64 0] 31)).trans hk1)
 exact ((k.step (kset _ ⟨w.heap.size, 0, none⟩ _) (fun g hg => .inr (Nat.le_of_eq hg.symm))).step (kset _ ⟨w.heap.size, 1, none⟩ _) (fun g hg => .inr (Nat.le_of_eq hg.symm))).step (kset _ ⟨w.heap.size, 2, none⟩ _) (fun g hg => .inr (Nat.le_of_eq hg.symm))
theorem count_c (s : ByteArray) (hs : s.size <= 1000000) (w : World) {S : Nat -> Prop} {p : Option Addr} {c : Nat} (hS : SlAt encStr S w p c [⟨#[45, 99]⟩]) (ht : As22 w) (h10 : T10 w) :
 Calls Tryz.prog 17 #[.slice p 1 c, inOf s] w fun e w' => e = .returned (.agg #[.string (decB s.size ++ ⟨#[10]⟩), .string ⟨#[]⟩, .int .i64 0]) ∧ Keeps NoB w w' := by
 obtain ⟨tt, htt⟩ : ∃ tt, decB s.size ++ ⟨#[10]⟩ = tt := ⟨_, rfl⟩
 rw [htt]
 have HTt := Lib.hid htt
 clear htt
 obtain ⟨g, o, rfl, _, hgl, c0⟩ := hS.str (i := 0) (x := ⟨#[45, 99]⟩) rfl
 have hcp := hS.cap
 have hmx := hS.max
 unfold maxLen at hmx
 simp only [List.length_cons, List.length_nil, Nat.zero_add] at hcp
 simp only [Nat.add_zero] at c0
 have hconv := fun wx => Lib.run_convert_string_bytes (P := Tryz.prog) wx 9 28 5 ⟨#[99]⟩ Tryz.underlying9 Tryz.underlying28 Tryz.underlying5
 have hex : (⟨#[45, 99]⟩ : ByteArray).extract 1 2 = ⟨#[99]⟩ := by decide
 obtain ⟨vp, hvp⟩ : ∃ vp, subAt 1 (some ⟨g, o, none⟩) c 1 = vp := ⟨_, rfl⟩
 have hsl1 : ∀ wx : World, (Instr.slice 29 (.slice (some ⟨g, o, none⟩) 1 c) (some (.int .i64 1)) none none).run Tryz.prog wx = .ok (.slice vp 0 (c - 1)) wx := fun wx => by
  rw [<- hvp]
  exact run_slice_l (P := Tryz.prog) 29 9 1 Tryz.underlying29 (by kernel_rfl) (some ⟨g, o, none⟩) 1 c 1 (by omega) wx (by omega)
 have HS1 := Lib.hid hsl1
 have HC0 : Hid (w.cell? ⟨g, o, none⟩ = some (.string ⟨#[45, 99]⟩)) := c0
 have HT0 := Lib.hid h10
 have HTb := Lib.hid ht
 have k1 : Keeps NoB w (w.alloc (.cells #[.string ⟨#[]⟩, .string ⟨#[]⟩, .int .i64 0] 31)) := (Keeps.refl _ _).alloc _
 have k2 : Keeps NoB (w.alloc (.cells #[.string ⟨#[]⟩, .string ⟨#[]⟩, .int .i64 0] 31)) ((w.alloc (.cells #[.string ⟨#[]⟩, .string ⟨#[]⟩, .int .i64 0] 31)).alloc (.cells #[.string ⟨#[]⟩] 9)) := (Keeps.refl _ _).alloc _
 obtain ⟨hsl, hkc⟩ := conv_sl ((w.alloc (.cells #[.string ⟨#[]⟩, .string ⟨#[]⟩, .int .i64 0] 31)).alloc (.cells #[.string ⟨#[]⟩] 9)) ⟨#[99]⟩ (by decide)
 have hz1 : (w.alloc (.cells #[.string ⟨#[]⟩, .string ⟨#[]⟩, .int .i64 0] 31)).heap.size = w.heap.size + 1 := by simp
 have hz2 : ((w.alloc (.cells #[.string ⟨#[]⟩, .string ⟨#[]⟩, .int .i64 0] 31)).alloc (.cells #[.string ⟨#[]⟩] 9)).heap.size = w.heap.size + 1 + 1 := by simp
 have HR0 := Lib.hid (Bk.new (k2.trans hkc))
 have hkb := Bk.new hkc
 rw [hz1] at hkb
 have HKb := Lib.hid hkb
 have t0 : (Lib.bytesWorld ((w.alloc (.cells #[.string ⟨#[]⟩, .string ⟨#[]⟩, .int .i64 0] 31)).alloc (.cells #[.string ⟨#[]⟩] 9)) 5 ⟨#[99]⟩).cell? ⟨w.heap.size + 1 + 1, 0, none⟩ = some (.int .u8 99) := by
  obtain ⟨g, off, e, _, _, hcc⟩ := hsl.at (i := 0) (x := 99) rfl
  cases e
  have := hcc 0 _ rfl
  rw [hz2] at this
  simpa [encU8] using this
 have HWB := Lib.hid ((k1.trans k2).trans hkc)
 have hcp2 := hsl.cap
 have hmx2 := hsl.max
 unfold maxLen at hmx2
 have HI0 := Lib.hid (fun wx => ib_any ⟨#[108, 119, 99]⟩ 99 wx)
 rw [show bIdx (⟨#[108, 119, 99]⟩ : ByteArray) ((99 : Int)).toNat.toUInt8 = 2 by decide] at HI0
 have HI1 := Lib.hid (fun wx => ib_any ⟨#[99]⟩ 108 wx)
 rw [show bIdx (⟨#[99]⟩ : ByteArray) ((108 : Int)).toNat.toUInt8 = -1 by decide] at HI1
 have HI2 := Lib.hid (fun wx => ib_any ⟨#[99]⟩ 119 wx)
 rw [show bIdx (⟨#[99]⟩ : ByteArray) ((119 : Int)).toNat.toUInt8 = -1 by decide] at HI2
 have HI3 := Lib.hid (fun wx => ib_any ⟨#[99]⟩ 99 wx)
 rw [show bIdx (⟨#[99]⟩ : ByteArray) ((99 : Int)).toNat.toUInt8 = 0 by decide] at HI3
 have HX : Hid ((⟨#[]⟩ ++ ⟨#[99]⟩ : ByteArray) = ⟨#[99]⟩) := Lib.hid (by decide)
 have HCp := Lib.hid hcp
 have HMx : Hid (c <= 2 ^ 63 - 1) := Lib.hid hmx
 clear hS ht h10 hvp hsl1 k1 k2 hsl hkc hz1 hz2 hkb
 unfold inOf
 go_enter Tryz.func17, Tryz.ntmps17
 go_upto_region 5 with fail
 clear c0 hconv
 generalize Lib.bytesWorld ((w.alloc (.cells #[.string ⟨#[]⟩, .string ⟨#[]⟩, .int .i64 0] 31)).alloc (.cells #[.string ⟨#[]⟩] 9)) 5 ⟨#[99]⟩ = wB at *
 go_loop [43] (fun i => i = .int .i64 0 ∨ i = .int .i64 1) (fun i => 2 - (intOf i).toNat)
 case atStart => exact .inl rfl
 case round =>
  rcases hrel with rfl | rfl
  ·go_wp2_with (go_at_call 33; go_loud (refine (HI0.out _).mono ?_); rintro e w3 ⟨rfl, rfl⟩)
   go_round
   case rel => exact .inr (by go_num)
   case measure => simp [intOf]
  ·clear t0
   have hcc : (convert 28 28 (.slice (some ⟨wB.heap.size, 0, none⟩) 3 3)).run Tryz.prog (wB.alloc (.cells #[.int .u8 108, .int .u8 119, .int .u8 99] 5)) = .ok (.slice (some ⟨wB.heap.size, 0, none⟩) 3 3) (wB.alloc (.cells #[.int .u8 108, .int .u8 119, .int .u8 99] 5 (3, 4))) := Lib.run_convert_bytes_const wB 28 5 _ 3 3 Tryz.underlying28 Tryz.underlying5
   have m0 : (wB.alloc (.cells #[.int .u8 108, .int .u8 119, .int .u8 99] 5 (3, 4))).cell? ⟨wB.heap.size, 0, none⟩ = some (.int .u8 108) := by rw [cell_of_row _ _ 0 _ _ (3, 4) (heap_alloc_new wB _)]; rfl
   have m1 : (wB.alloc (.cells #[.int .u8 108, .int .u8 119, .int .u8 99] 5 (3, 4))).cell? ⟨wB.heap.size, 1, none⟩ = some (.int .u8 119) := by rw [cell_of_row _ _ 1 _ _ (3, 4) (heap_alloc_new wB _)]; rfl
   have m2 : (wB.alloc (.cells #[.int .u8 108, .int .u8 119, .int .u8 99] 5 (3, 4))).cell? ⟨wB.heap.size, 2, none⟩ = some (.int .u8 99) := by rw [cell_of_row _ _ 2 _ _ (3, 4) (heap_alloc_new wB _)]; rfl
   have HM0 := Lib.hid m0
   have HM1 := Lib.hid m1
   have HM2 := Lib.hid m2
   have ml : wB.heap.size < (wB.alloc (.cells #[.int .u8 108, .int .u8 119, .int .u8 99] 5 (3, 4))).heap.size := by simp
   have HMl := Lib.hid ml
   have kc : Keeps NoB wB (wB.alloc (.cells #[.int .u8 108, .int .u8 119, .int .u8 99] 5 (3, 4))) := (Keeps.refl _ _).alloc _
   have HKc := Lib.hid (HKb.out.on kc)
   have HRc := Lib.hid (HR0.out.on kc)
   have HWC := Lib.hid (HWB.out.trans kc)
   have hbs := HKb.out.lt
   have HBs := Lib.hid hbs
   clear kc m0 m1 m2 hbs
   go_upto_region 11 with fail
   clear hcc ml
   generalize wB.alloc (.cells #[.int .u8 108, .int .u8 119, .int .u8 99] 5 (3, 4)) = wC at *
   generalize wB.heap.size = NB at *
   go_loopw [55] (fun i wr => ∃ k : Nat, k <= 3 ∧ i = .int .i64 k ∧ Bk wr (w.heap.size + 1) [.string (if k <= 2 then ⟨#[]⟩ else ⟨#[99]⟩)] ∧ Keeps (fun g => g = w.heap.size + 1) wC wr) (fun i _ => 4 - (intOf i).toNat)
   case atStart => exact ⟨0, by omega, rfl, HKc.out, Keeps.refl _ _⟩
   case round =>
    obtain ⟨k, hk, rfl, hb, hkw⟩ := hrel
    have HB := Lib.hid hb
    have HKw := Lib.hid hkw
    have hne : ¬ NB = w.heap.size + 1 := by have := HBs.out; omega
    have c0 : wr.cell? ⟨g, o, none⟩ = some (.string ⟨#[45, 99]⟩) := (hkw.cell (p := ⟨g, o, none⟩) (Nat.lt_of_lt_of_le hgl HWC.out.size) (fun e => by have e' : g = w.heap.size + 1 := e; omega)).trans ((HWC.out.cell (p := ⟨g, o, none⟩) hgl (fun h => h)).trans HC0.out)
    have HM0r : Hid (wr.cell? ⟨NB, 0, none⟩ = some (.int .u8 108)) := Lib.hid ((hkw.cell (p := ⟨NB, 0, none⟩) HMl.out hne).trans HM0.out)
    have HM1r : Hid (wr.cell? ⟨NB, 1, none⟩ = some (.int .u8 119)) := Lib.hid ((hkw.cell (p := ⟨NB, 1, none⟩) HMl.out hne).trans HM1.out)
    have HM2r : Hid (wr.cell? ⟨NB, 2, none⟩ = some (.int .u8 99)) := Lib.hid ((hkw.cell (p := ⟨NB, 2, none⟩) HMl.out hne).trans HM2.out)
    clear hb hkw
    rcases (show k = 0 ∨ k = 1 ∨ k = 2 ∨ k = 3 by omega) with rfl | rfl | rfl | rfl
    ·have m0 := HM0r.out
     go_wp2_with (go_at_call 33; go_loud (refine (HI1.out _).mono ?_); rintro e w3 ⟨rfl, rfl⟩)
     go_roundw
     case rel => exact ⟨1, by omega, by go_num, HB.out, HKw.out⟩
     case measure => simp [intOf]
    ·have m1 := HM1r.out
     go_wp2_with (go_at_call 33; go_loud (refine (HI2.out _).mono ?_); rintro e w3 ⟨rfl, rfl⟩)
     go_roundw
     case rel => exact ⟨2, by omega, by go_num, HB.out, HKw.out⟩
     case measure => simp [intOf]
    ·have hb : Bk wr (w.heap.size + 1) [.string ⟨#[]⟩] := HB.out
     have m2 := HM2r.out
     have b0 := hb.cell 0 _ rfl
     have bf := hb.fz 0
     have bl := hb.lt
     have hlit : (convert 28 9 (.slice (some ⟨wr.heap.size, 0, none⟩) 1 1)).run Tryz.prog (wr.alloc (.cells #[.int .u8 99] 5)) = .ok (.string ⟨#[99]⟩) (wr.alloc (.cells #[.int .u8 99] 5)) := lit_strF wr #[.int .u8 99] [99] rfl
     have HB2 := Lib.hid ((hb.put 0 (.string (⟨#[]⟩ ++ ⟨#[99]⟩))).on ((Keeps.refl NoB _).alloc (.cells #[.int .u8 99] 5)))
     have HK2 := Lib.hid ((HKw.out.trans (kset wr ⟨w.heap.size + 1, 0, none⟩ (.string (⟨#[]⟩ ++ ⟨#[99]⟩)))).alloc (.cells #[.int .u8 99] 5))
     clear hb
     go_wp2_with (go_at_call 33; go_loud (refine (HI3.out _).mono ?_); rintro e w3 ⟨rfl, rfl⟩)
     go_roundw
     case rel => exact ⟨3, by omega, by go_num, by have h2 := HB2.out; rw [HX.out] at h2 ⊢; exact h2, HK2.out⟩
     case measure => simp [intOf]
    ·have hsl1 := HS1.out
     have hw1 : w.heap.size + 1 < wr.heap.size := HB.out.lt
     have d1 : Keeps NoB wr (wr.alloc (.cells #[.int .i64 0, .int .i64 0, .int .i64 0] 70)) := (Keeps.refl _ _).alloc _
     have d2 : Keeps NoB (wr.alloc (.cells #[.int .i64 0, .int .i64 0, .int .i64 0] 70)) ((wr.alloc (.cells #[.int .i64 0, .int .i64 0, .int .i64 0] 70)).alloc (.cells #[.int .i64 0] 3)) := (Keeps.refl _ _).alloc _
     have d3 : Keeps NoB ((wr.alloc (.cells #[.int .i64 0, .int .i64 0, .int .i64 0] 70)).alloc (.cells #[.int .i64 0] 3)) (((wr.alloc (.cells #[.int .i64 0, .int .i64 0, .int .i64 0] 70)).alloc (.cells #[.int .i64 0] 3)).alloc (.cells #[.func (.func 34) #[] #[.pointer (some ⟨w.heap.size + 1, 0, none⟩)]] 72)) := (Keeps.refl _ _).alloc _
     have z1 : (wr.alloc (.cells #[.int .i64 0, .int .i64 0, .int .i64 0] 70)).heap.size = wr.heap.size + 1 := by simp
     have z2 : ((wr.alloc (.cells #[.int .i64 0, .int .i64 0, .int .i64 0] 70)).alloc (.cells #[.int .i64 0] 3)).heap.size = wr.heap.size + 1 + 1 := by simp
     have hA := Bk.new (d2.trans d3)
     have hT := Bk.new d3
     rw [z1] at hT
     have hL := Bk.new (Keeps.refl NoB (((wr.alloc (.cells #[.int .i64 0, .int .i64 0, .int .i64 0] 70)).alloc (.cells #[.int .i64 0] 3)).alloc (.cells #[.func (.func 34) #[] #[.pointer (some ⟨w.heap.size + 1, 0, none⟩)]] 72)))
     rw [z2] at hL
     have kd := (d1.trans d2).trans d3
     have hKl : Bk (((wr.alloc (.cells #[.int .i64 0, .int .i64 0, .int .i64 0] 70)).alloc (.cells #[.int .i64 0] 3)).alloc (.cells #[.func (.func 34) #[] #[.pointer (some ⟨w.heap.size + 1, 0, none⟩)]] 72)) (w.heap.size + 1) [.string ⟨#[99]⟩] := HB.out.on kd
     have HKD := Lib.hid ((HWC.out.trans (Keeps.refl _ _)).step (HKw.out.trans kd.of_none) (fun g hg => .inr (by have e : g = w.heap.size + 1 := hg; omega)))
     have HEa := Lib.hid (each_wc s hs _ wr.heap.size (wr.heap.size + 1) (wr.heap.size + 1 + 1) (w.heap.size + 1) vp (c - 1) hA hT hL hKl (HTb.out.on HKD.out) (HT0.out.on HKD.out) (by omega) (by omega) (by omega) (by omega) (by omega))
     unfold tellF inOf at HEa
     rw [HTt.out] at HEa
     have HRD := Lib.hid ((HRc.out.keep HKw.out (by show ¬ w.heap.size = w.heap.size + 1; omega)).on kd)
     clear d1 d2 d3 z1 z2 hA hT hL kd hKl
     go_upto_region 21 with (go_at_call 14; go_loud (refine HEa.out.mono ?_); rintro e w6 ⟨rfl, hk6, hb6⟩)
     have ka : Keeps NoB w6 (w6.alloc (.cells #[.string tt, .string ⟨#[]⟩, .int .i64 0] 31)) := (Keeps.refl _ _).alloc _
     have hr := Bk.new (Keeps.refl NoB (w6.alloc (.cells #[.string tt, .string ⟨#[]⟩, .int .i64 0] 31)))
     have hs := ((HRD.out.keep hk6 (by show ¬ (w.heap.size = wr.heap.size ∨ w.heap.size = wr.heap.size + 1); omega)).on ka)
     have ht := hb6.on ka
     have t0 := ht.cell 0 _ rfl
     have tl := ht.lt
     have r0 := hr.cell 0 _ rfl
     have r1 := hr.cell 1 _ rfl
     have r2 := hr.cell 2 _ rfl
     have rl := hr.lt
     have s0 := hs.cell 0 _ rfl
     have s1 := hs.cell 1 _ rfl
     have s2 := hs.cell 2 _ rfl
     have sf := hs.fz
     have sl := hs.lt
     have HK7 := Lib.hid ((HKD.out.step hk6 (fun g hg => .inr (by rcases hg with h | h <;> omega))).trans ka)
     clear hr hs ht hk6 hb6 ka hw1
     generalize w6.alloc (.cells #[.string tt, .string ⟨#[]⟩, .int .i64 0] 31) = w7 at *
     generalize w6.heap.size = RB at *
     go_wp2_with fail
     refine bodyPost_ret (v := .agg #[.string tt, .string ⟨#[]⟩, .int .i64 0]) ?_ rfl ?_
     ·rw [results_cell_oneF rfl]; go_simp
     refine ⟨rfl, ?_⟩
     exact ((HK7.out.step (kset w7 ⟨w.heap.size, 0, none⟩ (.string tt)) (fun g hg => .inr (Nat.le_of_eq hg.symm))).step (kset _ ⟨w.heap.size, 1, none⟩ _) (fun g hg => .inr (Nat.le_of_eq hg.symm))).step (kset _ ⟨w.heap.size, 2, none⟩ _) (fun g hg => .inr (Nat.le_of_eq hg.symm))
theorem wc_c (s : ByteArray) (hs : s.size <= 1000000) (w : World) {S : Nat -> Prop} {p : Option Addr} {c : Nat} (hS : SlAt encStr S w p c [⟨#[45, 99]⟩]) (ht : As22 w) (h10 : T10 w) :
 Calls Tryz.prog 6 #[.string ⟨#[119, 99]⟩, .slice p 1 c, inOf s] w fun e w' => e = .returned (.agg #[.string (decB s.size ++ ⟨#[10]⟩), .string ⟨#[]⟩, .int .i64 0]) ∧ Keeps NoB w w' := by
 have ka : Keeps NoB w (w.alloc (.cells #[.string ⟨#[]⟩, .string ⟨#[]⟩, .int .i64 0] 31)) := (Keeps.refl _ _).alloc _
 have HC := Lib.hid (count_c s hs _ (hS.keepN ka) (ht.on ka) (h10.on ka))
 clear hS ht h10 ka
 generalize decB s.size ++ ⟨#[10]⟩ = tt at *
 go_enter Tryz.func6, Tryz.ntmps6
 go_wp2_with (go_at_call 17; go_loud (refine HC.out.mono ?_); rintro e w1 ⟨rfl, hk1⟩; have hb := Bk.new hk1; have r0 := hb.cell 0 _ rfl; have r1 := hb.cell 1 _ rfl; have r2 := hb.cell 2 _ rfl; have rf := hb.fz; have rl := hb.lt)
 refine bodyPost_ret (v := .agg #[.string tt, .string ⟨#[]⟩, .int .i64 0]) ?_ rfl ?_
 ·rw [results_cell_oneF rfl]; go_simp
 refine ⟨rfl, ?_⟩
 have k := (((Keeps.refl NoB w).alloc (.cells #[.string ⟨#[]⟩, .string ⟨#[]⟩, .int .i64 0] 31)).trans hk1)
 exact ((k.step (kset _ ⟨w.heap.size, 0, none⟩ _) (fun g hg => .inr (Nat.le_of_eq hg.symm))).step (kset _ ⟨w.heap.size, 1, none⟩ _) (fun g hg => .inr (Nat.le_of_eq hg.symm))).step (kset _ ⟨w.heap.size, 2, none⟩ _) (fun g hg => .inr (Nat.le_of_eq hg.symm))
theorem read_in (s : ByteArray) (w : World) : Calls Tryz.prog 31 #[.string ⟨#[45]⟩, inOf s] w fun e w' => e = .returned (.tuple #[.string s, .int .i64 0]) ∧ Keeps NoB w w' := by
 have HIn := Lib.hid (fun w1 : World => input_any s w1)
 unfold inOf
 go_enter Tryz.func31, Tryz.ntmps31
 go_wp2_with (go_at_call 180; go_loud (refine (HIn.out _).mono ?_); rintro e w4 ⟨rfl, hk4⟩)
 go_ret2
 exact ⟨rfl, hk4⟩
theorem cmp_same (s : ByteArray) (w : World) {S : Nat -> Prop} {p : Option Addr} {c : Nat} (hS : SlAt encStr S w p c [⟨#[45]⟩, ⟨#[45]⟩]) :
 Calls Tryz.prog 19 #[.slice p 2 c, inOf s] w fun e w' => e = .returned (.agg #[.string ⟨#[]⟩, .string ⟨#[]⟩, .int .i64 0]) ∧ Keeps NoB w w' := by
 obtain ⟨g, o, rfl, _, hgl, c0⟩ := hS.str (i := 0) (x := ⟨#[45]⟩) rfl
 obtain ⟨g', o', he, _, _, c1⟩ := hS.str (i := 1) (x := ⟨#[45]⟩) rfl
 cases he
 have hcp := hS.cap
 have hmx := hS.max
 unfold maxLen at hmx
 simp only [List.length_cons, List.length_nil, Nat.zero_add] at hcp
 simp only [Nat.add_zero] at c0
 have HC0 : Hid (w.cell? ⟨g, o, none⟩ = some (.string ⟨#[45]⟩)) := c0
 have HC1 : Hid (w.cell? ⟨g, o + 1, none⟩ = some (.string ⟨#[45]⟩)) := c1
 have ka : Keeps NoB w (w.alloc (.cells #[.string ⟨#[]⟩, .string ⟨#[]⟩, .int .i64 0] 31)) := (Keeps.refl _ _).alloc _
 have hR := Bk.new (Keeps.refl NoB (w.alloc (.cells #[.string ⟨#[]⟩, .string ⟨#[]⟩, .int .i64 0] 31)))
 have HR := Lib.hid hR
 have HKa := Lib.hid ka
 have HRd := Lib.hid (fun w1 : World => read_in s w1)
 have hgl' : g < (w.alloc (.cells #[.string ⟨#[]⟩, .string ⟨#[]⟩, .int .i64 0] 31)).heap.size := Nat.lt_of_lt_of_le hgl ka.size
 have HGl := Lib.hid hgl'
 have a0 : (w.alloc (.cells #[.string ⟨#[]⟩, .string ⟨#[]⟩, .int .i64 0] 31)).cell? ⟨g, o, none⟩ = some (.string ⟨#[45]⟩) := (ka.cell (p := ⟨g, o, none⟩) hgl (fun h => h)).trans c0
 have HA1 : Hid ((w.alloc (.cells #[.string ⟨#[]⟩, .string ⟨#[]⟩, .int .i64 0] 31)).cell? ⟨g, o + 1, none⟩ = some (.string ⟨#[45]⟩)) := (ka.cell (p := ⟨g, o + 1, none⟩) hgl (fun h => h)).trans c1
 clear hS c0 c1 ka hR hgl'
 unfold inOf at HRd ⊢
 go_enter Tryz.func19, Tryz.ntmps19
 go_upto_region 1 with fail
 generalize w.alloc (.cells #[.string ⟨#[]⟩, .string ⟨#[]⟩, .int .i64 0] 31) = w2 at *
 go_upto_region 9 with (go_at_call 31; go_loud (refine (HRd.out _).mono ?_); rintro e w3 ⟨rfl, hk3⟩)
 have a1 : w3.cell? ⟨g, o + 1, none⟩ = some (.string ⟨#[45]⟩) := (hk3.cell (p := ⟨g, o + 1, none⟩) HGl.out (fun h => h)).trans HA1.out
 clear a0
 go_wp2_with (go_at_call 31; go_loud (refine (HRd.out _).mono ?_); rintro e w4 ⟨rfl, hk4⟩; have hb := HR.out.on (hk3.trans hk4); have r0 := hb.cell 0 _ rfl; have r1 := hb.cell 1 _ rfl; have r2 := hb.cell 2 _ rfl; have rf := hb.fz; have rl := hb.lt)
 refine bodyPost_ret (v := .agg #[.string ⟨#[]⟩, .string ⟨#[]⟩, .int .i64 0]) ?_ rfl ?_
 ·rw [results_cell_oneF rfl]; go_simp
 refine ⟨rfl, ?_⟩
 have k := (HKa.out.trans hk3).trans hk4
 exact ((k.step (kset _ ⟨w.heap.size, 0, none⟩ _) (fun g hg => .inr (Nat.le_of_eq hg.symm))).step (kset _ ⟨w.heap.size, 1, none⟩ _) (fun g hg => .inr (Nat.le_of_eq hg.symm))).step (kset _ ⟨w.heap.size, 2, none⟩ _) (fun g hg => .inr (Nat.le_of_eq hg.symm))
theorem cmp_run (s : ByteArray) (w : World) {S : Nat -> Prop} {p : Option Addr} {c : Nat} (hS : SlAt encStr S w p c [⟨#[45]⟩, ⟨#[45]⟩]) :
 Calls Tryz.prog 6 #[.string ⟨#[99, 109, 112]⟩, .slice p 2 c, inOf s] w fun e w' => e = .returned (.agg #[.string ⟨#[]⟩, .string ⟨#[]⟩, .int .i64 0]) ∧ Keeps NoB w w' := by
 have ka : Keeps NoB w (w.alloc (.cells #[.string ⟨#[]⟩, .string ⟨#[]⟩, .int .i64 0] 31)) := (Keeps.refl _ _).alloc _
 have HC := Lib.hid (cmp_same s _ (hS.keepN ka))
 clear hS ka
 go_enter Tryz.func6, Tryz.ntmps6
 go_wp2_with (go_at_call 19; go_loud (refine HC.out.mono ?_); rintro e w1 ⟨rfl, hk1⟩; have hb := Bk.new hk1; have r0 := hb.cell 0 _ rfl; have r1 := hb.cell 1 _ rfl; have r2 := hb.cell 2 _ rfl; have rf := hb.fz; have rl := hb.lt)
 refine bodyPost_ret (v := .agg #[.string ⟨#[]⟩, .string ⟨#[]⟩, .int .i64 0]) ?_ rfl ?_
 ·rw [results_cell_oneF rfl]; go_simp
 refine ⟨rfl, ?_⟩
 have k := (((Keeps.refl NoB w).alloc (.cells #[.string ⟨#[]⟩, .string ⟨#[]⟩, .int .i64 0] 31)).trans hk1)
 exact ((k.step (kset _ ⟨w.heap.size, 0, none⟩ _) (fun g hg => .inr (Nat.le_of_eq hg.symm))).step (kset _ ⟨w.heap.size, 1, none⟩ _) (fun g hg => .inr (Nat.le_of_eq hg.symm))).step (kset _ ⟨w.heap.size, 2, none⟩ _) (fun g hg => .inr (Nat.le_of_eq hg.symm))
set_option maxHeartbeats 4000000
abbrev F22 := ByteArray × ByteArray × Int
def encF22 : Enc F22 where
 enc := fun o => [.string o.1, .string o.2.1, .int .i64 o.2.2]
 k := 3
 pos := by decide
 len := fun _ => rfl
 one := fun x v hv => by simp at hv; rcases hv with rfl | rfl | rfl <;> rfl
theorem SlAt.f22 {S : Nat -> Prop} {w : World} {p : Option Addr} {c : Nat} {l : List F22} (h : SlAt encF22 S w p c l) {i : Nat} {x : F22} (hi : l[i]? = some x) :
 ∃ g off, p = some ⟨g, off, none⟩ ∧ S g ∧ g < w.heap.size ∧ w.cell? ⟨g, off + i * 3, none⟩ = some (.string x.1) ∧ w.cell? ⟨g, off + i * 3 + 1, none⟩ = some (.string x.2.1) ∧ w.cell? ⟨g, off + i * 3 + 2, none⟩ = some (.int .i64 x.2.2) := by
 obtain ⟨g, off, hp, hS, hg, hc⟩ := h.at hi
 exact ⟨g, off, hp, hS, hg, hc 0 _ rfl, (by have := hc 1 _ rfl; rwa [<- Nat.add_assoc] at this), (by have := hc 2 _ rfl; rwa [<- Nat.add_assoc] at this)⟩
def findF : List F22 -> ByteArray -> Option F22
 | [], _ => none
 | f :: l, s => if f.1 = s then some f else findF l s
theorem findF_hit {l : List F22} {k : Nat} {f : F22} (h : l[k]? = some f) (s : ByteArray) (hs : f.1 = s) : findF (l.drop k) s = some f := by
 rw [List.drop_eq_getElem_cons (List.getElem?_eq_some_iff.1 h).1, (List.getElem?_eq_some_iff.1 h).2, findF, if_pos hs]
theorem findF_miss {l : List F22} {k : Nat} {f : F22} (h : l[k]? = some f) (s : ByteArray) (hs : ¬ f.1 = s) : findF (l.drop k) s = findF (l.drop (k + 1)) s := by
 rw [List.drop_eq_getElem_cons (List.getElem?_eq_some_iff.1 h).1, (List.getElem?_eq_some_iff.1 h).2, findF, if_neg hs]
theorem findF_mem : ∀ {l : List F22} {s : ByteArray} {f : F22}, findF l s = some f -> f ∈ l
 | [], _, _, h => by cases h
 | g :: l, s, f, h => by
   rw [findF] at h
   split at h
   ·cases h; exact List.mem_cons_self
   ·exact List.mem_cons_of_mem _ (findF_mem h)
def fdV : Option F22 -> Value
 | some f => .tuple #[.agg #[.string f.1, .string f.2.1, .int .i64 f.2.2], .int .i64 0]
 | none => .tuple #[.agg #[.string ⟨#[]⟩, .string ⟨#[]⟩, .int .i64 0], .int .i64 12]
def flV : Option F22 -> Value
 | some f => .tuple #[.string f.2.1, .int .i64 0]
 | none => .tuple #[.string ⟨#[]⟩, .int .i64 12]
theorem find_any (l : List F22) (s inp : ByteArray) (e0 : Int) (w : World) {S : Nat -> Prop} {p : Option Addr} {c : Nat} (h : SlAt encF22 S w p c l) :
 Calls Tryz.prog 8 #[.agg #[.string inp, .int .i64 e0, .slice p l.length c], .string s] w fun e w' => e = .returned (fdV (findF l s)) ∧ Keeps NoB w w' := by
 have hcap := h.cap
 have hmax := h.max
 unfold maxLen at hmax
 have k2 : Keeps NoB w ((w.alloc (.cells #[.string inp, .int .i64 e0, .slice p l.length c] 25)).alloc (.cells #[.string ⟨#[]⟩, .string ⟨#[]⟩, .int .i64 0] 36)) := ((Keeps.refl _ _).alloc _).alloc _
 have HH := Lib.hid (h.keepN k2)
 have HK := Lib.hid k2
 have h0 := Bk.new ((Keeps.refl NoB (w.alloc (.cells #[.string inp, .int .i64 e0, .slice p l.length c] 25))).alloc (.cells #[.string ⟨#[]⟩, .string ⟨#[]⟩, .int .i64 0] 36))
 have h1 := Bk.new (Keeps.refl NoB ((w.alloc (.cells #[.string inp, .int .i64 e0, .slice p l.length c] 25)).alloc (.cells #[.string ⟨#[]⟩, .string ⟨#[]⟩, .int .i64 0] 36)))
 rw [show (w.alloc (.cells #[.string inp, .int .i64 e0, .slice p l.length c] 25)).heap.size = w.heap.size + 1 by simp] at h1
 have b2 := h0.cell 2 _ rfl
 have bl := h0.lt
 have r0 := h1.cell 0 _ rfl
 have r1 := h1.cell 1 _ rfl
 have r2 := h1.cell 2 _ rfl
 have rf := h1.fz
 have rl := h1.lt
 clear h k2 h0 h1
 go_enter Tryz.func8, Tryz.ntmps8
 go_upto_region 1 with fail
 generalize (w.alloc (.cells #[.string inp, .int .i64 e0, .slice p l.length c] 25)).alloc (.cells #[.string ⟨#[]⟩, .string ⟨#[]⟩, .int .i64 0] 36) = w2 at *
 have HRB : Hid (w.heap.size <= w.heap.size + 1) := Lib.hid (by omega)
 go_wp2
 go_loop [6] (fun v => ∃ k : Nat, k <= l.length ∧ v = .int .i64 k ∧ findF l s = findF (l.drop k) s) (fun v => l.length + 1 - (intOf v).toNat)
 case atStart => exact ⟨0, Nat.zero_le _, rfl, rfl⟩
 case round =>
  obtain ⟨k, hk, rfl, hf⟩ := hrel
  have HF := Lib.hid hf
  clear hf
  by_cases hlt : k < l.length
  ·obtain ⟨f, hx⟩ : ∃ f, l[k]? = some f := ⟨_, List.getElem?_eq_getElem hlt⟩
   obtain ⟨g, off, rfl, hS, hg, c0, c1, c2⟩ := HH.out.f22 hx
   have HX := Lib.hid hx
   clear hx hS
   obtain ⟨f0, f1, f2⟩ := f
   simp only at c0 c1 c2
   by_cases hs : f0 = s
   ·subst hs
    go_wp2
    (try simp only [Exit.inBlock, Exit.then])
    refine bodyPost_ret (v := .tuple #[.agg #[.string f0, .string f1, .int .i64 f2], .int .i64 0]) ?_ rfl ?_
    ·rw [results_cell_tmpF rfl]; go_simp
    refine ⟨?_, ((HK.out.step (kset _ ⟨w.heap.size + 1, 0, none⟩ _) (fun g hg => .inr (by rw [hg]; exact HRB.out))).step (kset _ ⟨w.heap.size + 1, 1, none⟩ _) (fun g hg => .inr (by rw [hg]; exact HRB.out))).step (kset _ ⟨w.heap.size + 1, 2, none⟩ _) (fun g hg => .inr (by rw [hg]; exact HRB.out))⟩
    rw [HF.out, findF_hit HX.out f0 rfl]
    rfl
   ·have hs' := toList_ne hs
    go_wp2
    go_round
    case rel => exact ⟨k + 1, by omega, by go_num, by rw [HF.out, findF_miss HX.out s hs]⟩
    case measure => (simp [intOf]) <;> omega
  ·obtain rfl : k = l.length := by omega
   go_wp2
   (try simp only [Exit.inBlock, Exit.then])
   refine bodyPost_ret (v := .tuple #[.agg #[.string ⟨#[]⟩, .string ⟨#[]⟩, .int .i64 0], .int .i64 12]) ?_ rfl ?_
   ·rw [results_cell_tmpF rfl]; go_simp
   refine ⟨?_, ((HK.out.step (kset _ ⟨w.heap.size + 1, 0, none⟩ _) (fun g hg => .inr (by rw [hg]; exact HRB.out))).step (kset _ ⟨w.heap.size + 1, 1, none⟩ _) (fun g hg => .inr (by rw [hg]; exact HRB.out))).step (kset _ ⟨w.heap.size + 1, 2, none⟩ _) (fun g hg => .inr (by rw [hg]; exact HRB.out))⟩
   rw [HF.out, List.drop_of_length_le (Nat.le_refl _)]
   rfl
theorem inFile_any (l : List F22) (s inp : ByteArray) (e0 : Int) (w : World) {S : Nat -> Prop} {p : Option Addr} {c : Nat} (h : SlAt encF22 S w p c l) :
 Calls Tryz.prog 179 #[.agg #[.string inp, .int .i64 e0, .slice p l.length c], .string s] w fun e w' => e = .returned (flV (findF l s)) ∧ Keeps NoB w w' := by
 have HF := Lib.hid (fun (w1 : World) (k : Keeps NoB w w1) => find_any l s inp e0 w1 (h.keepN k))
 have HK := Lib.hid ((Keeps.refl NoB w).alloc (.cells #[.string inp, .int .i64 e0, .slice p l.length c] 27))
 have hz : l.length <= maxLen := Nat.le_trans h.cap h.max
 unfold maxLen at hz
 have hcp := h.cap
 clear h
 rcases hv : findF l s with _ | ⟨f0, f1, f2⟩
 ·rw [hv] at HF
  unfold fdV at HF
  clear hv
  go_enter Tryz.func179, Tryz.ntmps179
  go_wp2_with (go_at_call 8; go_loud (refine (HF.out _ HK.out).mono ?_); rintro e w1 ⟨rfl, hk1⟩)
  go_ret2
  exact ⟨rfl, (HK.out.trans hk1).alloc _⟩
 ·rw [hv] at HF
  unfold fdV at HF
  clear hv
  go_enter Tryz.func179, Tryz.ntmps179
  go_wp2_with (go_at_call 8; go_loud (refine (HF.out _ HK.out).mono ?_); rintro e w1 ⟨rfl, hk1⟩)
  go_ret2
  exact ⟨rfl, (HK.out.trans hk1).alloc _⟩
theorem read_file (l : List F22) (s inp : ByteArray) (e0 : Int) (w : World) {S : Nat -> Prop} {p : Option Addr} {c : Nat} (h : SlAt encF22 S w p c l) (hs : ¬ s = ⟨#[45]⟩) (f : F22) (hf : findF l s = some f) :
 Calls Tryz.prog 31 #[.string s, .iface 27 (.agg #[.string inp, .int .i64 e0, .slice p l.length c])] w fun e w' => e = .returned (.tuple #[.string f.2.1, .int .i64 0]) ∧ Keeps NoB w w' := by
 have HF := Lib.hid (inFile_any l s inp e0 w h)
 rw [hf] at HF
 unfold flV at HF
 have hs' := toList_ne hs
 rw [show (⟨#[45]⟩ : ByteArray).toList = [45] by rw [Lib.toList_data]] at hs'
 clear h hs hf
 go_enter Tryz.func31, Tryz.ntmps31
 go_wp2_with (go_at_call 179; go_loud (refine HF.out.mono ?_); rintro e w1 ⟨rfl, hk1⟩)
 go_ret2
 exact ⟨rfl, hk1⟩
set_option maxHeartbeats 8000000
def catB (ds : List ByteArray) : ByteArray := ds.foldl (· ++ ·) ⟨#[]⟩
theorem catB_succ {ds : List ByteArray} {k : Nat} {x : ByteArray} (h : ds[k]? = some x) : catB (ds.take (k + 1)) = catB (ds.take k) ++ x := by
 unfold catB
 rw [List.take_add_one, h, List.foldl_append]
 rfl
theorem catB_size {ds : List ByteArray} (h : ∀ x ∈ ds, x.size <= 500) : ∀ k, k <= ds.length -> (catB (ds.take k)).size <= 500 * k := by
 intro k
 induction k with
 | zero => intro _; exact Nat.zero_le _
 | succ k ih =>
   intro hk
   have hx : ds[k]? = some ds[k] := List.getElem?_eq_getElem (by omega)
   rw [catB_succ hx, ByteArray.size_append]
   have h1 := ih (by omega)
   have h2 := h _ (List.mem_of_getElem? hx)
   omega
def dOf (l : List F22) (s : ByteArray) : ByteArray := match findF l s with
 | some f => f.2.1
 | none => ⟨#[]⟩
theorem dOf_some {l : List F22} {s : ByteArray} {f : F22} (h : findF l s = some f) : dOf l s = f.2.1 := by unfold dOf; rw [h]
theorem dOf_size {l : List F22} (h : ∀ f ∈ l, f.2.1.size <= 500) (s : ByteArray) : (dOf l s).size <= 500 := by
 unfold dOf
 rcases hf : findF l s with _ | f
 ·exact Nat.zero_le _
 ·exact h f (findF_mem hf)
theorem cat_any (s nm : ByteArray) (w : World) : Calls Tryz.prog 15 #[.string s, .string nm] w fun e w' => e = .returned (.string s) ∧ w = w' := by
 go_enter Tryz.func15, Tryz.ntmps15
 go_wp2
 go_ret
 exact ⟨rfl, rfl⟩
def Names22 (l : List F22) (names : List ByteArray) : Prop := ∀ (i : Nat) x, names[i]? = some x -> (∃ f, findF l x = some f) ∧ ¬ x = ⟨#[45]⟩ ∧ ¬ x = ⟨#[45, 45]⟩
theorem each_cat (l : List F22) (names : List ByteArray) (inp : ByteArray) (e0 : Int) (w : World) {S S2 : Nat -> Prop} {p p2 : Option Addr} {c c2 : Nat} (hS : SlAt encStr S w p c names) (hL : SlAt encF22 S2 w p2 c2 l) (h1 : 0 < names.length) (hn : names.length <= 9) (hok : Names22 l names) (hz : ∀ f ∈ l, f.2.1.size <= 500) :
 Calls Tryz.prog 14 #[.string ⟨#[99, 97, 116]⟩, .slice p names.length c, .iface 27 (.agg #[.string inp, .int .i64 e0, .slice p2 l.length c2]), .func (.func 15) #[] #[]] w fun e w' => e = .returned (.agg #[.string (catB (names.map (dOf l))), .string ⟨#[]⟩, .int .i64 0]) ∧ Keeps NoB w w' := by
 obtain ⟨x0, hx0⟩ : ∃ x0, names[0]? = some x0 := ⟨_, List.getElem?_eq_getElem h1⟩
 obtain ⟨g, o, rfl, _, hgl, c0⟩ := hS.str hx0
 have hcp := hS.cap
 have hmx := hS.max
 unfold maxLen at hmx
 simp only [Nat.add_zero] at c0
 have q0 : (x0.toList == [45, 45]) = false := by
  have := toList_ne (hok 0 x0 hx0).2.2
  rw [show (⟨#[45, 45]⟩ : ByteArray).toList = [45, 45] by rw [Lib.toList_data]] at this
  exact this
 have k1 : Keeps NoB w (w.alloc (.cells #[.string ⟨#[]⟩, .string ⟨#[]⟩, .int .i64 0] 31)) := (Keeps.refl _ _).alloc _
 have k2 : Keeps NoB (w.alloc (.cells #[.string ⟨#[]⟩, .string ⟨#[]⟩, .int .i64 0] 31)) ((w.alloc (.cells #[.string ⟨#[]⟩, .string ⟨#[]⟩, .int .i64 0] 31)).alloc (.cells #[.string ⟨#[]⟩, .string ⟨#[]⟩, .int .i64 0] 31)) := (Keeps.refl _ _).alloc _
 have HR0 := Lib.hid (Bk.new k2)
 have hr1 := Bk.new (Keeps.refl NoB ((w.alloc (.cells #[.string ⟨#[]⟩, .string ⟨#[]⟩, .int .i64 0] 31)).alloc (.cells #[.string ⟨#[]⟩, .string ⟨#[]⟩, .int .i64 0] 31)))
 rw [show (w.alloc (.cells #[.string ⟨#[]⟩, .string ⟨#[]⟩, .int .i64 0] 31)).heap.size = w.heap.size + 1 by simp] at hr1
 have HR1 := Lib.hid hr1
 have HK2 := Lib.hid (k1.trans k2)
 have HS := Lib.hid hS
 have HOk := Lib.hid hok
 have HZ := Lib.hid (catB_size (ds := names.map (dOf l)) (fun x hx => by
  obtain ⟨y, _, rfl⟩ := List.mem_map.1 hx
  exact dOf_size hz y))
 have HDz := Lib.hid (fun s => dOf_size hz s)
 have HRead := Lib.hid (fun (x : ByteArray) (hx : ¬ x = ⟨#[45]⟩) (f : F22) (hf : findF l x = some f) (w4 : World) (k : Keeps NoB w w4) => read_file l x inp e0 w4 (hL.keepN k) hx f hf)
 have HCat := Lib.hid (fun (s nm : ByteArray) (w4 : World) => cat_any s nm w4)
 have HSu : Hid (∀ (k : Nat) (x : ByteArray), names[k]? = some x -> catB ((names.map (dOf l)).take (k + 1)) = catB ((names.map (dOf l)).take k) ++ dOf l x) := Lib.hid fun k x hx => catB_succ (by rw [List.getElem?_map, hx]; rfl)
 obtain ⟨tt, htt⟩ : ∃ tt, catB (names.map (dOf l)) = tt := ⟨_, rfl⟩
 rw [htt]
 have HEnd : Hid (catB ((names.map (dOf l)).take names.length) = tt) := Lib.hid (by rw [List.take_of_length_le (by simp), htt])
 have HLen : Hid ((names.map (dOf l)).length = names.length) := Lib.hid (by simp)
 have a0 : ((w.alloc (.cells #[.string ⟨#[]⟩, .string ⟨#[]⟩, .int .i64 0] 31)).alloc (.cells #[.string ⟨#[]⟩, .string ⟨#[]⟩, .int .i64 0] 31)).cell? ⟨g, o, none⟩ = some (.string x0) := ((k1.trans k2).cell (p := ⟨g, o, none⟩) hgl (fun h => h)).trans c0
 clear hS hL hok hz k1 k2 hr1 c0 hx0 htt
 generalize names.map (dOf l) = ds at *
 go_enter Tryz.func14, Tryz.ntmps14
 go_upto_region 2 with fail
 generalize (w.alloc (.cells #[.string ⟨#[]⟩, .string ⟨#[]⟩, .int .i64 0] 31)).alloc (.cells #[.string ⟨#[]⟩, .string ⟨#[]⟩, .int .i64 0] 31) = w2 at *
 go_upto_region 10 with fail
 clear a0
 go_loopw [47] (fun i wr => ∃ k : Nat, k <= names.length ∧ i = .int .i64 k ∧ Bk wr (w.heap.size + 1) [.string (catB (ds.take k)), .string ⟨#[]⟩, .int .i64 0] ∧ Bk wr w.heap.size res0 ∧ Keeps NoB w wr) (fun i _ => names.length + 1 - (intOf i).toNat)
 case atStart => exact ⟨0, Nat.zero_le _, rfl, HR1.out, HR0.out, HK2.out⟩
 case round =>
  rename_i wr
  obtain ⟨k, hk, rfl, hb1, hb0, hkr⟩ := hrel
  have HB1 := Lib.hid hb1
  have HB0 := Lib.hid hb0
  have HKr := Lib.hid hkr
  clear hb1 hb0 hkr
  by_cases hlt : k < names.length
  ·obtain ⟨x, hx⟩ : ∃ x, names[k]? = some x := ⟨_, List.getElem?_eq_getElem hlt⟩
   obtain ⟨g', o', he, _, _, a0⟩ := (HS.out.keepN HKr.out).str hx
   cases he
   obtain ⟨⟨f, hf⟩, hx1, _⟩ := HOk.out k x hx
   have HRd := Lib.hid (HRead.out x hx1 f hf)
   have hdf := dOf_some hf
   have hdz := HDz.out x
   rw [hdf] at hdz
   have hzz := HZ.out k (by rw [HLen.out]; exact hk)
   have HSx := Lib.hid (HSu.out k x hx)
   rw [hdf] at HSx
   clear hx hf hx1 hdf
   generalize f.2.1 = d at *
   go_upto_region 17 with (first | (go_at_call 31; go_loud (refine (HRd.out _ HKr.out).mono ?_); rintro e w4 ⟨rfl, hk4⟩) | (go_at_call 15; go_loud (refine (HCat.out _ _ _).mono ?_); rintro e w5 ⟨rfl, rfl⟩))
   have hr1 := HB1.out.on hk4
   have hr0 := HB0.out.on hk4
   have r0 := hr1.cell 0 _ rfl
   have rf := hr1.fz 0
   have rl := hr1.lt
   have HB2 := Lib.hid (hr1.put 0 (.string (catB (ds.take k) ++ d)))
   have k6 := kset w4 ⟨w.heap.size + 1, 0, none⟩ (.string (catB (ds.take k) ++ d))
   have HB3 := Lib.hid (hr0.keep k6 (by show ¬ w.heap.size = w.heap.size + 1; omega))
   have HK6 := Lib.hid ((HKr.out.trans hk4).step k6 (fun g hg => .inr (by rw [hg]; exact Nat.le_succ _)))
   clear hr1 hr0 k6
   generalize catB (ds.take k) = P at *
   go_wp2_with fail
   go_roundw
   case rel => exact ⟨k + 1, by omega, by go_num, by rw [HSx.out]; exact HB2.out, HB3.out, HK6.out⟩
   case measure => (simp [intOf]) <;> omega
  ·obtain rfl : k = names.length := by omega
   have HE := HEnd.out
   have hb1 := HB1.out
   rw [HE] at hb1
   have r0 := hb1.cell 0 _ rfl
   have r1 := hb1.cell 1 _ rfl
   have r2 := hb1.cell 2 _ rfl
   have rl := hb1.lt
   have s0 := HB0.out.cell 0 _ rfl
   have s1 := HB0.out.cell 1 _ rfl
   have s2 := HB0.out.cell 2 _ rfl
   have sf := HB0.out.fz
   have sl := HB0.out.lt
   clear hb1 HE
   go_wp2_with fail
   refine bodyPost_ret (v := .agg #[.string tt, .string ⟨#[]⟩, .int .i64 0]) ?_ rfl ?_
   ·rw [results_cell_oneF rfl]; go_simp
   refine ⟨rfl, ?_⟩
   exact ((HKr.out.step (kset wr ⟨w.heap.size, 0, none⟩ (.string tt)) (fun g hg => .inr (Nat.le_of_eq hg.symm))).step (kset _ ⟨w.heap.size, 1, none⟩ _) (fun g hg => .inr (Nat.le_of_eq hg.symm))).step (kset _ ⟨w.heap.size, 2, none⟩ _) (fun g hg => .inr (Nat.le_of_eq hg.symm))
theorem cat_run (l : List F22) (names : List ByteArray) (inp : ByteArray) (e0 : Int) (w : World) {S S2 : Nat -> Prop} {p p2 : Option Addr} {c c2 : Nat} (hS : SlAt encStr S w p c names) (hL : SlAt encF22 S2 w p2 c2 l) (h1 : 0 < names.length) (hn : names.length <= 9) (hok : Names22 l names) (hz : ∀ f ∈ l, f.2.1.size <= 500) :
 Calls Tryz.prog 6 #[.string ⟨#[99, 97, 116]⟩, .slice p names.length c, .iface 27 (.agg #[.string inp, .int .i64 e0, .slice p2 l.length c2])] w fun e w' => e = .returned (.agg #[.string (catB (names.map (dOf l))), .string ⟨#[]⟩, .int .i64 0]) ∧ Keeps NoB w w' := by
 have ka : Keeps NoB w (w.alloc (.cells #[.string ⟨#[]⟩, .string ⟨#[]⟩, .int .i64 0] 31)) := (Keeps.refl _ _).alloc _
 have HC := Lib.hid (each_cat l names inp e0 _ (hS.keepN ka) (hL.keepN ka) h1 hn hok hz)
 have hcp := hS.cap
 have hmx := hS.max
 unfold maxLen at hmx
 have hcp2 := hL.cap
 have hmx2 := hL.max
 unfold maxLen at hmx2
 clear hS hL hok hz ka
 generalize catB (names.map (dOf l)) = tt at *
 go_enter Tryz.func6, Tryz.ntmps6
 go_wp2_with (go_at_call 14; go_loud (refine HC.out.mono ?_); rintro e w1 ⟨rfl, hk1⟩; have hb := Bk.new hk1; have r0 := hb.cell 0 _ rfl; have r1 := hb.cell 1 _ rfl; have r2 := hb.cell 2 _ rfl; have rf := hb.fz; have rl := hb.lt)
 refine bodyPost_ret (v := .agg #[.string tt, .string ⟨#[]⟩, .int .i64 0]) ?_ rfl ?_
 ·rw [results_cell_oneF rfl]; go_simp
 refine ⟨rfl, ?_⟩
 have k := (((Keeps.refl NoB w).alloc (.cells #[.string ⟨#[]⟩, .string ⟨#[]⟩, .int .i64 0] 31)).trans hk1)
 exact ((k.step (kset _ ⟨w.heap.size, 0, none⟩ _) (fun g hg => .inr (Nat.le_of_eq hg.symm))).step (kset _ ⟨w.heap.size, 1, none⟩ _) (fun g hg => .inr (Nat.le_of_eq hg.symm))).step (kset _ ⟨w.heap.size, 2, none⟩ _) (fun g hg => .inr (Nat.le_of_eq hg.symm))
def Small22 (l : List F22) (names : List ByteArray) : Prop := (∀ f ∈ l, f.2.1.size <= 500) ∧ (∀ x ∈ names, x.size <= 300)
def SmTo (P : Prop) (w : World) (e : Ending) (w' : World) : Prop := ∃ b, e = .returned (.bool b) ∧ (b = true -> P) ∧ Keeps NoB w w'
theorem small22_any (names : List ByteArray) (l : List F22) (inp : ByteArray) (e0 : Int) (w : World) {S S2 : Nat -> Prop} {p p2 : Option Addr} {c c2 : Nat} (hS : SlAt encStr S w p c names) (hL : SlAt encF22 S2 w p2 c2 l) :
 Calls Tryz.prog 7 #[.slice p names.length c, .agg #[.string inp, .int .i64 e0, .slice p2 l.length c2]] w fun e w' => SmTo (Small22 l names) w e w' := by
 have hcap := hL.cap
 have hmax := hL.max
 unfold maxLen at hmax
 have hcap2 := hS.cap
 have hmax2 := hS.max
 unfold maxLen at hmax2
 have ka : Keeps NoB w (w.alloc (.cells #[.string inp, .int .i64 e0, .slice p2 l.length c2] 25)) := (Keeps.refl _ _).alloc _
 have HB := Lib.hid (Bk.new (Keeps.refl NoB (w.alloc (.cells #[.string inp, .int .i64 e0, .slice p2 l.length c2] 25))))
 have HS := Lib.hid (hS.keepN ka)
 have HL := Lib.hid (hL.keepN ka)
 have HK := Lib.hid ka
 have b0 := HB.out.cell 0 _ rfl
 have b2 := HB.out.cell 2 _ rfl
 have bl := HB.out.lt
 clear hS hL ka
 go_enter Tryz.func7, Tryz.ntmps7
 go_upto_region 1 with fail
 generalize w.alloc (.cells #[.string inp, .int .i64 e0, .slice p2 l.length c2] 25) = w2 at *
 go_wp2
 go_loopw [16] (fun s wr => ∃ n : Nat, n <= l.length ∧ s = .int .i64 n ∧ (∀ j (f : F22), j < n -> l[j]? = some f -> f.2.1.size <= 500) ∧ Keeps NoB w2 wr) (fun s _ => l.length + 1 - (intOf s).toNat)
 case atStart => exact ⟨0, Nat.zero_le _, rfl, fun j o hj => by omega, Keeps.refl _ _⟩
 case round =>
  rename_i wr
  obtain ⟨n, hn, rfl, hall, hk⟩ := hrel
  have Hall := Lib.hid hall
  have Hk := Lib.hid hk
  clear hall hk b0 b2 bl
  by_cases hlt : n < l.length
  ·obtain ⟨f, hx⟩ : ∃ f, l[n]? = some f := ⟨_, List.getElem?_eq_getElem hlt⟩
   obtain ⟨g, off, rfl, hS, hg, c0, c1, c3⟩ := (HL.out.keepN Hk.out).f22 hx
   have Hx := Lib.hid hx
   clear hx hS
   obtain ⟨f0, f1, f2⟩ := f
   simp only at c0 c1 c3
   by_cases d1 : f2 < 0
   ·go_wp2
    go_ret
    exact ⟨false, rfl, (fun h => by cases h), (HK.out.trans Hk.out).alloc _⟩
   by_cases d2 : 4095 < f2
   ·go_wp2
    go_ret
    exact ⟨false, rfl, (fun h => by cases h), (HK.out.trans Hk.out).alloc _⟩
   by_cases d3 : 500 < f1.size
   ·have d3' : (500 : Int) < (f1.size : Int) := by omega
    go_wp2
    go_ret
    exact ⟨false, rfl, (fun h => by cases h), (HK.out.trans Hk.out).alloc _⟩
   have d3' : ¬ ((500 : Int) < (f1.size : Int)) := by omega
   by_cases d4 : 100 < f0.size
   ·have d4' : (100 : Int) < (f0.size : Int) := by omega
    go_wp2
    go_ret
    exact ⟨false, rfl, (fun h => by cases h), (HK.out.trans Hk.out).alloc _⟩
   have d4' : ¬ ((100 : Int) < (f0.size : Int)) := by omega
   have hgo : ∀ j (x : F22), j < n + 1 -> l[j]? = some x -> x.2.1.size <= 500 := fun j x hj hx => by
    by_cases e : j = n
    ·subst e; rw [Hx.out] at hx; cases hx; exact Nat.le_of_not_lt d3
    ·exact Hall.out j x (by omega) hx
   have Hgo := Lib.hid hgo
   clear hgo
   go_wp2
   go_roundw
   case rel => exact ⟨n + 1, by omega, by go_num, Hgo.out, Hk.out.alloc _⟩
   case measure => (simp [intOf]) <;> omega
  ·obtain rfl : n = l.length := by omega
   have HY : Hid (∀ f ∈ l, f.2.1.size <= 500) := Lib.hid fun f hf => by
    obtain ⟨j, hj⟩ := List.mem_iff_getElem?.1 hf
    exact Hall.out j f (List.getElem?_eq_some_iff.1 hj).1 hj
   have HSr := Lib.hid (HS.out.keepN Hk.out)
   have HKr := Lib.hid (HK.out.trans Hk.out)
   have b0 := (HB.out.on Hk.out).cell 0 _ rfl
   have b1 := (HB.out.on Hk.out).cell 1 _ rfl
   have b2 := (HB.out.on Hk.out).cell 2 _ rfl
   have bl := (HB.out.on Hk.out).lt
   clear Hall HS HL HK HB Hk hlt
   go_upto_region 9 with fail
   go_loop [43] (fun s => ∃ n : Nat, n <= names.length ∧ s = .int .i64 n ∧ (∀ j (x : ByteArray), j < n -> names[j]? = some x -> x.size <= 300)) (fun s => names.length + 1 - (intOf s).toNat)
   case atStart => exact ⟨0, Nat.zero_le _, rfl, fun j o hj => by omega⟩
   case round =>
    obtain ⟨n, hn, rfl, hall⟩ := hrel
    have Hall := Lib.hid hall
    clear hall
    by_cases hlt : n < names.length
    ·obtain ⟨x, hx⟩ : ∃ x, names[n]? = some x := ⟨_, List.getElem?_eq_getElem hlt⟩
     obtain ⟨g, off, rfl, hS, hg, c0⟩ := HSr.out.str hx
     have Hx := Lib.hid hx
     clear hx hS
     by_cases d1 : 300 < x.size
     ·have d1' : (300 : Int) < (x.size : Int) := by omega
      go_wp2
      go_ret
      exact ⟨false, rfl, (fun h => by cases h), HKr.out⟩
     have d1' : ¬ ((300 : Int) < (x.size : Int)) := by omega
     have hgo : ∀ j (y : ByteArray), j < n + 1 -> names[j]? = some y -> y.size <= 300 := fun j y hj hy => by
      by_cases e : j = n
      ·subst e; rw [Hx.out] at hy; cases hy; exact Nat.le_of_not_lt d1
      ·exact Hall.out j y (by omega) hy
     have Hgo := Lib.hid hgo
     clear hgo
     go_wp2
     go_round
     case rel => exact ⟨n + 1, by omega, by go_num, Hgo.out⟩
     case measure => (simp [intOf]) <;> omega
    ·obtain rfl : n = names.length := by omega
     have HZ : Hid (∀ x ∈ names, x.size <= 300) := Lib.hid fun x hx => by
      obtain ⟨j, hj⟩ := List.mem_iff_getElem?.1 hx
      exact Hall.out j x (List.getElem?_eq_some_iff.1 hj).1 hj
     clear Hall HSr hlt
     by_cases q1 : (inp.size : Int) <= 500
     ·by_cases q2 : (names.length : Int) <= 30
      ·by_cases q3 : (l.length : Int) <= 10
       ·by_cases q4 : 0 <= e0
        ·by_cases q5 : e0 <= 100
         ·go_wp2
          go_ret
          exact ⟨_, rfl, fun _ => ⟨HY.out, HZ.out⟩, HKr.out⟩
         ·go_wp2
          go_ret
          exact ⟨_, rfl, fun _ => ⟨HY.out, HZ.out⟩, HKr.out⟩
        ·go_wp2
         go_ret
         exact ⟨_, rfl, fun _ => ⟨HY.out, HZ.out⟩, HKr.out⟩
       ·go_wp2
        go_ret
        exact ⟨_, rfl, fun _ => ⟨HY.out, HZ.out⟩, HKr.out⟩
      ·go_wp2
       go_ret
       exact ⟨_, rfl, fun _ => ⟨HY.out, HZ.out⟩, HKr.out⟩
     ·go_wp2
      go_ret
      exact ⟨_, rfl, fun _ => ⟨HY.out, HZ.out⟩, HKr.out⟩
set_option maxHeartbeats 4000000
theorem wc_ex (w : World) (L : Nat) {S : Nat -> Prop} {p : Option Addr} {c : Nat} (hS : SlAt encStr S w p c [⟨#[45, 108]⟩, ⟨#[97]⟩]) (hE : Ex22 w L) (ht : As22 w) :
 Calls Tryz.prog 6 #[.string ⟨#[119, 99]⟩, .slice p 2 c, inEx L] w fun e w' => e = .returned (.agg #[.string ⟨#[50, 32, 97, 10]⟩, .string ⟨#[]⟩, .int .i64 0]) ∧ Keeps NoB w w' := by
 have ka : Keeps NoB w (w.alloc (.cells #[.string ⟨#[]⟩, .string ⟨#[]⟩, .int .i64 0] 31)) := (Keeps.refl _ _).alloc _
 have HC := Lib.hid (count_ex _ L (hS.keepN ka) (Bk.on hE ka) (ht.on ka))
 clear hS hE ht ka
 go_enter Tryz.func6, Tryz.ntmps6
 go_wp2_with (go_at_call 17; go_loud (refine HC.out.mono ?_); rintro e w1 ⟨rfl, hk1⟩; have hb := Bk.new hk1; have r0 := hb.cell 0 _ rfl; have r1 := hb.cell 1 _ rfl; have r2 := hb.cell 2 _ rfl; have rf := hb.fz; have rl := hb.lt)
 refine bodyPost_ret (v := .agg #[.string ⟨#[50, 32, 97, 10]⟩, .string ⟨#[]⟩, .int .i64 0]) ?_ rfl ?_
 ·rw [results_cell_oneF rfl]; go_simp
 refine ⟨rfl, ?_⟩
 have k := (((Keeps.refl NoB w).alloc (.cells #[.string ⟨#[]⟩, .string ⟨#[]⟩, .int .i64 0] 31)).trans hk1)
 exact ((k.step (kset _ ⟨w.heap.size, 0, none⟩ _) (fun g hg => .inr (Nat.le_of_eq hg.symm))).step (kset _ ⟨w.heap.size, 1, none⟩ _) (fun g hg => .inr (Nat.le_of_eq hg.symm))).step (kset _ ⟨w.heap.size, 2, none⟩ _) (fun g hg => .inr (Nat.le_of_eq hg.symm))
theorem anchor22_any (w : World) (ht : As22 w) : Calls Tryz.prog 5 #[] w fun e w' => e = .returned (.bool true) ∧ Keeps NoB w w' := by
 have k1 : Keeps NoB w (w.alloc (.cells #[.string ⟨#[45, 108]⟩, .string ⟨#[97]⟩] 9)) := (Keeps.refl _ _).alloc _
 have k2 : Keeps NoB (w.alloc (.cells #[.string ⟨#[45, 108]⟩, .string ⟨#[97]⟩] 9)) ((w.alloc (.cells #[.string ⟨#[45, 108]⟩, .string ⟨#[97]⟩] 9)).alloc (.cells #[.string ⟨#[97]⟩, .string xyB, .int .i64 0] 36)) := (Keeps.refl _ _).alloc _
 have hS := ((own_lit (E := encStr) (e := 9) (w := w) (S := fun _ => True) [⟨#[45, 108]⟩, ⟨#[97]⟩] #[.string ⟨#[45, 108]⟩, .string ⟨#[97]⟩] rfl 2 rfl trivial (by decide)).at).keepN k2
 have hE := Bk.new (Keeps.refl NoB ((w.alloc (.cells #[.string ⟨#[45, 108]⟩, .string ⟨#[97]⟩] 9)).alloc (.cells #[.string ⟨#[97]⟩, .string xyB, .int .i64 0] 36)))
 rw [show (w.alloc (.cells #[.string ⟨#[45, 108]⟩, .string ⟨#[97]⟩] 9)).heap.size = w.heap.size + 1 by simp] at hE
 have HR := Lib.hid (wc_ex _ (w.heap.size + 1) hS hE (ht.on (k1.trans k2)))
 have HK := Lib.hid (k1.trans k2)
 unfold inEx at HR
 clear hS hE ht k1 k2
 go_enter Tryz.func5, Tryz.ntmps5
 go_wp2_with (go_at_call 6; go_loud (refine HR.out.mono ?_); rintro e w1 ⟨rfl, hk1⟩)
 go_ret
 exact ⟨ret_bool (by simp), (HK.out.trans hk1).alloc _⟩
set_option maxHeartbeats 16000000
theorem bk_ofJ {W : World} {g : Nat} (h0 : W.cell? ⟨g, 0, none⟩ = some (.string ⟨#[]⟩)) (h1 : W.cell? ⟨g, 1, none⟩ = some (.string ⟨#[]⟩)) (h2 : W.cell? ⟨g, 2, none⟩ = some (.int .i64 0)) (hf : ∀ j, W.frozen? ⟨g, j, none⟩ = false) : Bk W g res0 :=
 ⟨lt_of_cell h0, (fun i v hv => match i, hv with
   | 0, hv => by cases hv; exact h0
   | 1, hv => by cases hv; exact h1
   | 2, hv => by cases hv; exact h2
   | _ + 3, hv => by cases hv), hf⟩
theorem row_1 (W : World) (g : Nat) (a : ByteArray) (h0 : W.cell? ⟨g, 0, none⟩ = some (.string a)) : SlAt encStr (fun _ => True) W (some ⟨g, 0, none⟩) 1 [a] :=
 ⟨by simp, by decide, (fun h => by cases h), (fun _ x hx => by cases hx; rfl), fun _ => ⟨g, 0, rfl, trivial, lt_of_cell h0, fun j hj => by
   have hj2 : j < 1 := by simpa [encStr] using hj
   match j, hj2 with
   | 0, _ => rw [Nat.zero_add, h0]; rfl⟩⟩
theorem row_2J (W : World) (g : Nat) (a b : ByteArray) (h0 : W.cell? ⟨g, 0, none⟩ = some (.string a)) (h1 : W.cell? ⟨g, 1, none⟩ = some (.string b)) : SlAt encStr (fun _ => True) W (some ⟨g, 0, none⟩) 2 [a, b] :=
 ⟨by simp, by decide, (fun h => by cases h), (fun _ x hx => by cases hx; rfl), fun _ => ⟨g, 0, rfl, trivial, lt_of_cell h0, fun j hj => by
   have hj2 : j < 2 := by simpa [encStr] using hj
   match j, hj2 with
   | 0, _ => rw [Nat.zero_add, h0]; rfl
   | 1, _ => rw [Nat.zero_add, h1]; rfl⟩⟩
theorem filterJoins_any (l : List F22) (names : List ByteArray) (inp : ByteArray) (e0 : Int) (W : World) {S S2 : Nat -> Prop} {p p2 : Option Addr} {c c2 : Nat} (hS : SlAt encStr S W p c names) (hL : SlAt encF22 S2 W p2 c2 l) (ht : As22 W) (h10 : T10 W) :
 Calls Tryz.prog 4 #[.agg #[.string inp, .int .i64 e0, .slice p2 l.length c2], .slice p names.length c] W fun e w' => e = .returned (.bool true) ∧ Keeps NoB W w' := by
 have hcap := hL.cap
 have hmax := hL.max
 unfold maxLen at hmax
 have hcap2 := hS.cap
 have hmax2 := hS.max
 unfold maxLen at hmax2
 have ka : Keeps NoB W (W.alloc (.cells #[.string inp, .int .i64 e0, .slice p2 l.length c2] 25)) := (Keeps.refl _ _).alloc _
 have HB := Lib.hid (Bk.new (Keeps.refl NoB (W.alloc (.cells #[.string inp, .int .i64 e0, .slice p2 l.length c2] 25))))
 have HA := Lib.hid (anchor22_any _ (ht.on ka))
 have HKa := Lib.hid ka
 have HS := Lib.hid hS
 have HL := Lib.hid hL
 have HT := Lib.hid ht
 have H10 := Lib.hid h10
 have HSm := Lib.hid (fun (w1 : World) (k : Keeps NoB W w1) => small22_any names l inp e0 w1 (hS.keepN k) (hL.keepN k))
 have HFi := Lib.hid (fun (x : ByteArray) (w1 : World) (k : Keeps NoB W w1) => find_any l x inp e0 w1 (hL.keepN k))
 clear hS hL ht h10 ka
 go_enter Tryz.func4, Tryz.ntmps4
 go_upto_region 1 with fail
 generalize W.alloc (.cells #[.string inp, .int .i64 e0, .slice p2 l.length c2] 25) = w0 at *
 go_upto_region 3 with (go_at_call 5; go_loud (refine HA.out.mono ?_); rintro e w1 ⟨rfl, hk1⟩)
 have HK1 := Lib.hid (HKa.out.trans hk1)
 have HB1 := Lib.hid (HB.out.on hk1)
 have b0 := HB1.out.cell 0 _ rfl
 have b1 := HB1.out.cell 1 _ rfl
 have b2 := HB1.out.cell 2 _ rfl
 have bl := HB1.out.lt
 clear HA HKa HB hk1
 by_cases n1 : (names.length : Int) < 1
 ·go_wp2_with (go_at_call 7; go_loud (refine (HSm.out _ HK1.out).mono ?_); rintro e w2 ⟨b, rfl, _, hk2⟩)
  all_goals (go_ret; exact ⟨rfl, HK1.out.trans hk2⟩)
 by_cases n9 : 9 < (names.length : Int)
 ·go_wp2_with (go_at_call 7; go_loud (refine (HSm.out _ HK1.out).mono ?_); rintro e w2 ⟨b, rfl, _, hk2⟩)
  all_goals (go_ret; exact ⟨rfl, HK1.out.trans hk2⟩)
 go_wp2_with (go_at_call 7; go_loud (refine (HSm.out _ HK1.out).mono ?_); rintro e w2 ⟨b, rfl, hsm, hk2⟩; have HSM := Lib.hid hsm; clear hsm)
 all_goals (first | (go_ret; exact ⟨rfl, HK1.out.trans hk2⟩) | skip)
 have hq := HSM.out (by assumption)
 have HZ1 := Lib.hid hq.1
 have HZ2 := Lib.hid hq.2
 have HK2 := Lib.hid (HK1.out.trans hk2)
 have HB2 := Lib.hid (HB1.out.on hk2)
 have HN : Hid (0 < names.length ∧ names.length <= 9) := by show _ ∧ _; omega
 clear HSM hq HSm HK1 HB1 b0 b1 b2 bl hk2
 obtain ⟨ds, hds⟩ : ∃ ds, names.map (dOf l) = ds := ⟨_, rfl⟩
 have HSu : Hid (∀ (k : Nat) (x : ByteArray), names[k]? = some x -> catB (ds.take (k + 1)) = catB (ds.take k) ++ dOf l x) := Lib.hid fun k x hx => catB_succ (by rw [<- hds, List.getElem?_map, hx]; rfl)
 have HLn : Hid (ds.length = names.length) := Lib.hid (by rw [<- hds]; simp)
 have HSz := Lib.hid (catB_size (ds := ds) (fun x hx => by
  rw [<- hds] at hx
  obtain ⟨y, _, rfl⟩ := List.mem_map.1 hx
  exact dOf_size HZ1.out y))
 have HDs := Lib.hid hds
 clear hds
 go_loopw [5, 33] (fun a i wr => ∃ k : Nat, k <= names.length ∧ i = .int .i64 k ∧ a = .string (catB (ds.take k)) ∧ (∀ (j : Nat) x, j < k -> names[j]? = some x -> (∃ f, findF l x = some f) ∧ ¬ x = ⟨#[45]⟩ ∧ ¬ x = ⟨#[45, 45]⟩) ∧ Keeps NoB w2 wr) (fun _ i _ => names.length + 1 - (intOf i).toNat)
 case atStart => exact ⟨0, Nat.zero_le _, rfl, rfl, fun j x hj => by omega, Keeps.refl _ _⟩
 case round =>
  rename_i wr
  obtain ⟨k, hk, rfl, rfl, hall, hkr⟩ := hrel
  have Hall := Lib.hid hall
  have HKr := Lib.hid (HK2.out.trans hkr)
  have HBr := Lib.hid (HB2.out.on hkr)
  have Hkr := Lib.hid hkr
  have b0 := HBr.out.cell 0 _ rfl
  have b1 := HBr.out.cell 1 _ rfl
  have b2 := HBr.out.cell 2 _ rfl
  have bl := HBr.out.lt
  clear hall hkr
  by_cases hlt : k < names.length
  ·obtain ⟨x, hx⟩ : ∃ x, names[k]? = some x := ⟨_, List.getElem?_eq_getElem hlt⟩
   obtain ⟨g, off, rfl, _, hg, c0⟩ := (HS.out.keepN HKr.out).str hx
   have Hx := Lib.hid hx
   clear hx
   rcases hv : findF l x with _ | ⟨f0, f1, f2⟩
   ·have HF := Lib.hid (HFi.out x _ HKr.out)
    rw [hv] at HF
    unfold fdV at HF
    clear hv
    go_wp2_with (go_at_call 8; go_loud (refine HF.out.mono ?_); rintro e w5 ⟨rfl, hk5⟩)
    go_ret
    exact ⟨rfl, (HKr.out.trans hk5).alloc _⟩
   ·have HF := Lib.hid (HFi.out x _ HKr.out)
    rw [hv] at HF
    unfold fdV at HF
    have hd := dOf_some hv
    have HSx := Lib.hid (HSu.out k x Hx.out)
    rw [hd] at HSx
    have hz := HSz.out k (by rw [HLn.out]; exact hk)
    have hz1 := dOf_size HZ1.out x
    rw [hd] at hz1
    simp only at hz1 HSx
    have Hv := Lib.hid hv
    clear hv hd
    by_cases x1 : x = ⟨#[45]⟩
    ·subst x1
     go_wp2_with (go_at_call 8; go_loud (refine HF.out.mono ?_); rintro e w5 ⟨rfl, hk5⟩)
     go_ret
     exact ⟨rfl, (HKr.out.trans hk5).alloc _⟩
    by_cases x2 : x = ⟨#[45, 45]⟩
    ·subst x2
     go_wp2_with (go_at_call 8; go_loud (refine HF.out.mono ?_); rintro e w5 ⟨rfl, hk5⟩)
     go_ret
     exact ⟨rfl, (HKr.out.trans hk5).alloc _⟩
    by_cases x3 : x = ⟨#[]⟩
    ·subst x3
     go_wp2_with (go_at_call 8; go_loud (refine HF.out.mono ?_); rintro e w5 ⟨rfl, hk5⟩)
     go_ret
     exact ⟨rfl, (HKr.out.trans hk5).alloc _⟩
    have q1 : (x.toList == [45]) = false := by
     have := toList_ne x1
     rw [show (⟨#[45]⟩ : ByteArray).toList = [45] by rw [Lib.toList_data]] at this
     exact this
    have q2 : (x.toList == [45, 45]) = false := by
     have := toList_ne x2
     rw [show (⟨#[45, 45]⟩ : ByteArray).toList = [45, 45] by rw [Lib.toList_data]] at this
     exact this
    have q3 : (x.toList == []) = false := by
     have := toList_ne x3
     rw [show (⟨#[]⟩ : ByteArray).toList = [] by rw [Lib.toList_data]] at this
     exact this
    have q4 : x.toList.isEmpty = false := by
     rcases h : x.toList with _ | _
     ·rw [h] at q3; exact absurd q3 (by decide)
     ·rfl
    have Hgo : Hid (∀ (j : Nat) y, j < k + 1 -> names[j]? = some y -> (∃ f, findF l y = some f) ∧ ¬ y = ⟨#[45]⟩ ∧ ¬ y = ⟨#[45, 45]⟩) := Lib.hid fun j y hj hy => by
     by_cases e : j = k
     ·subst e
      rw [Hx.out] at hy
      cases hy
      exact ⟨⟨_, Hv.out⟩, x1, x2⟩
     ·exact Hall.out j y (by omega) hy
    clear x1 x2 x3
    generalize catB (ds.take k) = P at *
    go_wp2_with (go_at_call 8; go_loud (refine HF.out.mono ?_); rintro e w5 ⟨rfl, hk5⟩)
    go_roundw
    case rel => exact ⟨k + 1, by omega, by go_num, by rw [HSx.out], Hgo.out, (Hkr.out.trans hk5).alloc _⟩
    case measure => (simp [intOf]) <;> omega
  ·obtain rfl : k = names.length := by omega
   have hend : catB (ds.take names.length) = catB ds := by rw [List.take_of_length_le (by rw [HLn.out]; exact Nat.le_refl _)]
   have hzz := HSz.out names.length (by rw [HLn.out]; exact Nat.le_refl _)
   rw [hend] at hzz ⊢
   have HCat := Lib.hid (cat_run l names inp e0 _ (HS.out.keepN HKr.out) (HL.out.keepN HKr.out) HN.out.1 HN.out.2 (fun i x hx => Hall.out i x (List.getElem?_eq_some_iff.1 hx).1 hx) HZ1.out)
   rw [HDs.out] at HCat
   have HTz : Hid ((catB ds).size <= 5000) := Lib.hid (by have := HN.out; omega)
   clear hend hzz HSu HLn HSz HDs HZ1 HZ2 Hall HFi HS HL Hkr HK2 HB2 hlt n1 n9
   generalize catB ds = tt at *
   go_upto_region 15 with (go_at_call 6; go_loud (refine HCat.out.mono ?_); rintro e w6 ⟨rfl, hk6⟩)
   have ka : Keeps NoB w6 (w6.alloc (.cells #[.string tt, .string ⟨#[]⟩, .int .i64 0] 31)) := (Keeps.refl _ _).alloc _
   have kb : Keeps NoB (w6.alloc (.cells #[.string tt, .string ⟨#[]⟩, .int .i64 0] 31)) ((w6.alloc (.cells #[.string tt, .string ⟨#[]⟩, .int .i64 0] 31)).alloc (.cells #[.string tt, .int .i64 0, .slice none 0 0] 27)) := (Keeps.refl _ _).alloc _
   have HR := Lib.hid (Bk.new kb)
   have ho := Bk.new (Keeps.refl NoB ((w6.alloc (.cells #[.string tt, .string ⟨#[]⟩, .int .i64 0] 31)).alloc (.cells #[.string tt, .int .i64 0, .slice none 0 0] 27)))
   rw [show (w6.alloc (.cells #[.string tt, .string ⟨#[]⟩, .int .i64 0] 31)).heap.size = w6.heap.size + 1 by simp] at ho
   have HO := Lib.hid ho
   have HKS := Lib.hid (((HKr.out.trans hk6).trans ka).trans kb)
   clear ka kb ho hk6 HCat b0 b1 b2 bl HBr HKr
   go_upto_region 16 with fail
   generalize (w6.alloc (.cells #[.string tt, .string ⟨#[]⟩, .int .i64 0] 31)).alloc (.cells #[.string tt, .int .i64 0, .slice none 0 0] 27) = wS at *
   generalize w6.heap.size = RB at *
   have HTS := Lib.hid (HT.out.on HKS.out)
   have H10S := Lib.hid (H10.out.on HKS.out)
   obtain ⟨ta, hta⟩ : ∃ ta, lineB tt ++ ⟨#[10]⟩ = ta := ⟨_, rfl⟩
   obtain ⟨tb, htb⟩ : ∃ tb, decB tt.size ++ ⟨#[10]⟩ = tb := ⟨_, rfl⟩
   have HCk : Hid (∀ wx : World, Keeps NoB wS wx -> Calls Tryz.prog 6 #[.string ⟨#[99, 107, 115, 117, 109]⟩, .slice none 0 0, .iface 27 (.agg #[.string tt, .int .i64 0, .slice none 0 0])] wx fun e w' => e = .returned (.agg #[.string ta, .string ⟨#[]⟩, .int .i64 0]) ∧ Keeps NoB wx w') := Lib.hid fun wx k => by
    rw [<- hta]
    exact cksum_any tt (by have := HTz.out; omega) wx (H10S.out.on k)
   have HWc : Hid (∀ (wx : World) (g : Nat), Keeps NoB wS wx -> wx.cell? ⟨g, 0, none⟩ = some (.string ⟨#[45, 99]⟩) -> Calls Tryz.prog 6 #[.string ⟨#[119, 99]⟩, .slice (some ⟨g, 0, none⟩) 1 1, .iface 27 (.agg #[.string tt, .int .i64 0, .slice none 0 0])] wx fun e w' => e = .returned (.agg #[.string tb, .string ⟨#[]⟩, .int .i64 0]) ∧ Keeps NoB wx w') := Lib.hid fun wx g k h0 => by
    rw [<- htb]
    exact wc_c tt (by have := HTz.out; omega) wx (row_1 wx g _ h0) (HTS.out.on k) (H10S.out.on k)
   have HTa := Lib.hid hta
   have HTb := Lib.hid htb
   clear hta htb
   have o0 := HO.out.cell 0 _ rfl
   have o1 := HO.out.cell 1 _ rfl
   have o2 := HO.out.cell 2 _ rfl
   have ol := HO.out.lt
   go_cut [12, 13] from 71 to 77 (fun ra rb wx => ∃ G1 G2 : Nat, ∃ wn : World, wn = wx ∧ ra = .pointer (some ⟨G1, 0, none⟩) ∧ rb = .pointer (some ⟨G2, 0, none⟩) ∧ wx.cell? ⟨G1, 0, none⟩ = some (.string ta) ∧ wx.cell? ⟨G2, 0, none⟩ = some (.string tb) ∧ Keeps NoB wS wx)
   case first =>
    have krd := (Keeps.refl NoB wS).drew
    have hod := HO.out.on krd
    have d0 := hod.cell 0 _ rfl
    have d1 := hod.cell 1 _ rfl
    have d2 := hod.cell 2 _ rfl
    have dl := hod.lt
    clear hod
    -- arms
    go_region_held3 (fun wz => wz.cell? ⟨RB + 1, 0, none⟩ = some (.string tt) ∧ wz.cell? ⟨RB + 1, 1, none⟩ = some (.int .i64 0) ∧ wz.cell? ⟨RB + 1, 2, none⟩ = some (.slice none 0 0) ∧ Keeps NoB wS wz) (refine ⟨?_, ?_, ?_, ?_⟩ <;> first | with_reducible assumption | (with_reducible refine (HO.out.on ?_).cell 0 _ rfl; (repeat (first | with_reducible assumption | (with_reducible exact Keeps.refl _ _) | (with_reducible refine Keeps.drew ?_) | (with_reducible refine Keeps.drewN ?_ _) | (with_reducible refine Keeps.alloc ?_ _) | (with_reducible refine Keeps.setCell ?_ (by first | exact Or.inr (Nat.le_refl _) | exact Or.inr (by first | omega | (simp; done) | (simp; omega))) _))); done) | (with_reducible refine (HO.out.on ?_).cell 1 _ rfl; (repeat (first | with_reducible assumption | (with_reducible exact Keeps.refl _ _) | (with_reducible refine Keeps.drew ?_) | (with_reducible refine Keeps.drewN ?_ _) | (with_reducible refine Keeps.alloc ?_ _) | (with_reducible refine Keeps.setCell ?_ (by first | exact Or.inr (Nat.le_refl _) | exact Or.inr (by first | omega | (simp; done) | (simp; omega))) _))); done) | (with_reducible refine (HO.out.on ?_).cell 2 _ rfl; (repeat (first | with_reducible assumption | (with_reducible exact Keeps.refl _ _) | (with_reducible refine Keeps.drew ?_) | (with_reducible refine Keeps.drewN ?_ _) | (with_reducible refine Keeps.alloc ?_ _) | (with_reducible refine Keeps.setCell ?_ (by first | exact Or.inr (Nat.le_refl _) | exact Or.inr (by first | omega | (simp; done) | (simp; omega))) _))); done) | ((repeat (first | with_reducible assumption | (with_reducible exact Keeps.refl _ _) | (with_reducible refine Keeps.drew ?_) | (with_reducible refine Keeps.drewN ?_ _) | (with_reducible refine Keeps.alloc ?_ _) | (with_reducible refine Keeps.setCell ?_ (by first | exact Or.inr (Nat.le_refl _) | exact Or.inr (by first | omega | (simp; done) | (simp; omega))) _))); done))
     (first | (go_at_call 6; with_reducible refine (HCk.out _ ?_).mono ?_; (focus ((repeat (first | with_reducible assumption | (with_reducible exact Keeps.refl _ _) | (with_reducible refine Keeps.drew ?_) | (with_reducible refine Keeps.drewN ?_ _) | (with_reducible refine Keeps.alloc ?_ _) | (with_reducible refine Keeps.setCell ?_ (by first | exact Or.inr (Nat.le_refl _) | exact Or.inr (by first | omega | (simp; done) | (simp; omega))) _))); done)); rintro e v1 ⟨rfl, hk1⟩; have zk1 : Keeps NoB wS v1 := Keeps.trans (by (repeat (first | with_reducible assumption | (with_reducible exact Keeps.refl _ _) | (with_reducible refine Keeps.drew ?_) | (with_reducible refine Keeps.drewN ?_ _) | (with_reducible refine Keeps.alloc ?_ _) | (with_reducible refine Keeps.setCell ?_ (by first | exact Or.inr (Nat.le_refl _) | exact Or.inr (by first | omega | (simp; done) | (simp; omega))) _)))) hk1; have zs1 := zk1.size; have z0 := (HO.out.on zk1).cell 0 _ rfl; have z1 := (HO.out.on zk1).cell 1 _ rfl; have z2 := (HO.out.on zk1).cell 2 _ rfl; (try (refine (fun (e0 : Bk v1 (wS.heap.size) res0) => ?_) ?_; rotate_left; (focus ((refine Bk.on (bk_ofJ ?_ ?_ ?_ ?_) hk1) <;> (first | (intro _j; go_simp; done) | (go_simp; done)))); have e00 := e0.cell 0 _ rfl; have e01 := e0.cell 1 _ rfl; have e02 := e0.cell 2 _ rfl; have e0f := e0.fz; have e0l := e0.lt)); (try (refine (fun (e1 : Bk v1 (wS.heap.size + 1) res0) => ?_) ?_; rotate_left; (focus ((refine Bk.on (bk_ofJ ?_ ?_ ?_ ?_) hk1) <;> (first | (intro _j; go_simp; done) | (go_simp; done)))); have e10 := e1.cell 0 _ rfl; have e11 := e1.cell 1 _ rfl; have e12 := e1.cell 2 _ rfl; have e1f := e1.fz; have e1l := e1.lt)); (try (refine (fun (e2 : Bk v1 (wS.heap.size + 1 + 1) res0) => ?_) ?_; rotate_left; (focus ((refine Bk.on (bk_ofJ ?_ ?_ ?_ ?_) hk1) <;> (first | (intro _j; go_simp; done) | (go_simp; done)))); have e20 := e2.cell 0 _ rfl; have e21 := e2.cell 1 _ rfl; have e22 := e2.cell 2 _ rfl; have e2f := e2.fz; have e2l := e2.lt)); (try (refine (fun (r0 : v1.cell? ⟨wS.heap.size, 0, none⟩ = some (.string ⟨#[45, 99]⟩)) => ?_) ?_; rotate_left; (focus ((refine (hk1.cell (p := ⟨wS.heap.size, 0, none⟩) ?_ (fun h => h)).trans ?_) <;> (first | (intro _j; go_simp; done) | (go_simp; done)))); have r0l := lt_of_cell r0)); (try (refine (fun (r1 : v1.cell? ⟨wS.heap.size + 1, 0, none⟩ = some (.string ⟨#[45, 99]⟩)) => ?_) ?_; rotate_left; (focus ((refine (hk1.cell (p := ⟨wS.heap.size + 1, 0, none⟩) ?_ (fun h => h)).trans ?_) <;> (first | (intro _j; go_simp; done) | (go_simp; done)))); have r1l := lt_of_cell r1)); (try (refine (fun (r2 : v1.cell? ⟨wS.heap.size + 1 + 1, 0, none⟩ = some (.string ⟨#[45, 99]⟩)) => ?_) ?_; rotate_left; (focus ((refine (hk1.cell (p := ⟨wS.heap.size + 1 + 1, 0, none⟩) ?_ (fun h => h)).trans ?_) <;> (first | (intro _j; go_simp; done) | (go_simp; done)))); have r2l := lt_of_cell r2))) | (go_at_call 6; with_reducible refine (HWc.out _ _ ?_ ?_).mono ?_; (focus ((repeat (first | with_reducible assumption | (with_reducible exact Keeps.refl _ _) | (with_reducible refine Keeps.drew ?_) | (with_reducible refine Keeps.drewN ?_ _) | (with_reducible refine Keeps.alloc ?_ _) | (with_reducible refine Keeps.setCell ?_ (by first | exact Or.inr (Nat.le_refl _) | exact Or.inr (by first | omega | (simp; done) | (simp; omega))) _))); done)); (focus (first | with_reducible assumption | (exact ((show Keeps NoB v1 _ from (by (repeat (first | with_reducible assumption | (with_reducible exact Keeps.refl _ _) | (with_reducible refine Keeps.drew ?_) | (with_reducible refine Keeps.drewN ?_ _) | (with_reducible refine Keeps.alloc ?_ _) | (with_reducible refine Keeps.setCell ?_ (by first | exact Or.inr (Nat.le_refl _) | exact Or.inr (by first | omega | (simp; done) | (simp; omega))) _))))).cell (p := ⟨_, _, none⟩) r0l (fun h => h)).trans r0) | (exact ((show Keeps NoB v1 _ from (by (repeat (first | with_reducible assumption | (with_reducible exact Keeps.refl _ _) | (with_reducible refine Keeps.drew ?_) | (with_reducible refine Keeps.drewN ?_ _) | (with_reducible refine Keeps.alloc ?_ _) | (with_reducible refine Keeps.setCell ?_ (by first | exact Or.inr (Nat.le_refl _) | exact Or.inr (by first | omega | (simp; done) | (simp; omega))) _))))).cell (p := ⟨_, _, none⟩) r1l (fun h => h)).trans r1) | (exact ((show Keeps NoB v1 _ from (by (repeat (first | with_reducible assumption | (with_reducible exact Keeps.refl _ _) | (with_reducible refine Keeps.drew ?_) | (with_reducible refine Keeps.drewN ?_ _) | (with_reducible refine Keeps.alloc ?_ _) | (with_reducible refine Keeps.setCell ?_ (by first | exact Or.inr (Nat.le_refl _) | exact Or.inr (by first | omega | (simp; done) | (simp; omega))) _))))).cell (p := ⟨_, _, none⟩) r2l (fun h => h)).trans r2) | (go_simp <;> fail))); rintro e v2 ⟨rfl, hk2⟩; have zk2 : Keeps NoB wS v2 := Keeps.trans (by (repeat (first | with_reducible assumption | (with_reducible exact Keeps.refl _ _) | (with_reducible refine Keeps.drew ?_) | (with_reducible refine Keeps.drewN ?_ _) | (with_reducible refine Keeps.alloc ?_ _) | (with_reducible refine Keeps.setCell ?_ (by first | exact Or.inr (Nat.le_refl _) | exact Or.inr (by first | omega | (simp; done) | (simp; omega))) _)))) hk2; have zs2 := zk2.size; have z0 := (HO.out.on zk2).cell 0 _ rfl; have z1 := (HO.out.on zk2).cell 1 _ rfl; have z2 := (HO.out.on zk2).cell 2 _ rfl; (try (have f0 := Bk.on e0 (Keeps.trans (show Keeps NoB v1 _ from (by (repeat (first | with_reducible assumption | (with_reducible exact Keeps.refl _ _) | (with_reducible refine Keeps.drew ?_) | (with_reducible refine Keeps.drewN ?_ _) | (with_reducible refine Keeps.alloc ?_ _) | (with_reducible refine Keeps.setCell ?_ (by first | exact Or.inr (Nat.le_refl _) | exact Or.inr (by first | omega | (simp; done) | (simp; omega))) _))))) hk2); have f00 := f0.cell 0 _ rfl; have f01 := f0.cell 1 _ rfl; have f02 := f0.cell 2 _ rfl; have f0f := f0.fz; have f0l := f0.lt)); (try (have f1 := Bk.on e1 (Keeps.trans (show Keeps NoB v1 _ from (by (repeat (first | with_reducible assumption | (with_reducible exact Keeps.refl _ _) | (with_reducible refine Keeps.drew ?_) | (with_reducible refine Keeps.drewN ?_ _) | (with_reducible refine Keeps.alloc ?_ _) | (with_reducible refine Keeps.setCell ?_ (by first | exact Or.inr (Nat.le_refl _) | exact Or.inr (by first | omega | (simp; done) | (simp; omega))) _))))) hk2); have f10 := f1.cell 0 _ rfl; have f11 := f1.cell 1 _ rfl; have f12 := f1.cell 2 _ rfl; have f1f := f1.fz; have f1l := f1.lt)); (try (have f2 := Bk.on e2 (Keeps.trans (show Keeps NoB v1 _ from (by (repeat (first | with_reducible assumption | (with_reducible exact Keeps.refl _ _) | (with_reducible refine Keeps.drew ?_) | (with_reducible refine Keeps.drewN ?_ _) | (with_reducible refine Keeps.alloc ?_ _) | (with_reducible refine Keeps.setCell ?_ (by first | exact Or.inr (Nat.le_refl _) | exact Or.inr (by first | omega | (simp; done) | (simp; omega))) _))))) hk2); have f20 := f2.cell 0 _ rfl; have f21 := f2.cell 1 _ rfl; have f22 := f2.cell 2 _ rfl; have f2f := f2.fz; have f2l := f2.lt)); (try (refine (fun (g0 : Bk v2 (v1.heap.size) res0) => ?_) ?_; rotate_left; (focus ((refine Bk.on (bk_ofJ ?_ ?_ ?_ ?_) hk2) <;> (first | (intro _j; go_simp; done) | (go_simp; done)))); have g00 := g0.cell 0 _ rfl; have g01 := g0.cell 1 _ rfl; have g02 := g0.cell 2 _ rfl; have g0f := g0.fz; have g0l := g0.lt)); (try (refine (fun (g1 : Bk v2 (v1.heap.size + 1) res0) => ?_) ?_; rotate_left; (focus ((refine Bk.on (bk_ofJ ?_ ?_ ?_ ?_) hk2) <;> (first | (intro _j; go_simp; done) | (go_simp; done)))); have g10 := g1.cell 0 _ rfl; have g11 := g1.cell 1 _ rfl; have g12 := g1.cell 2 _ rfl; have g1f := g1.fz; have g1l := g1.lt)); (try (refine (fun (g2 : Bk v2 (v1.heap.size + 1 + 1) res0) => ?_) ?_; rotate_left; (focus ((refine Bk.on (bk_ofJ ?_ ?_ ?_ ?_) hk2) <;> (first | (intro _j; go_simp; done) | (go_simp; done)))); have g20 := g2.cell 0 _ rfl; have g21 := g2.cell 1 _ rfl; have g22 := g2.cell 2 _ rfl; have g2f := g2.fz; have g2l := g2.lt))))
    -- end of arms
    all_goals (first | (go_wp2_with fail; go_meet; refine ⟨_, _, _, rfl, rfl, rfl, ?_, ?_, ?_⟩; (focus (first | (go_simp; done) | (simp; done))); (focus (first | (go_simp; done) | (simp; done))); (focus ((repeat (first | with_reducible assumption | (with_reducible exact Keeps.refl _ _) | (with_reducible refine Keeps.drew ?_) | (with_reducible refine Keeps.drewN ?_ _) | (with_reducible refine Keeps.alloc ?_ _) | (with_reducible refine Keeps.setCell ?_ (by first | exact Or.inr (Nat.le_refl _) | exact Or.inr (by first | omega | (simp; done) | (simp; omega))) _))); done))) | skip)
   case rest =>
    obtain ⟨G1, G2, wq, rfl, rfl, rfl, hg1, hg2, hkq⟩ := hcut
    have HG1 : Hid (wq.cell? ⟨G1, 0, none⟩ = some (.string ta)) := hg1
    have HG2 : Hid (wq.cell? ⟨G2, 0, none⟩ = some (.string tb)) := hg2
    have HKq := Lib.hid hkq
    have HRq := Lib.hid (HR.out.on hkq)
    have HOq := Lib.hid (HO.out.on hkq)
    have HCm : Hid (∀ (wx : World) (g : Nat), wx.cell? ⟨g, 0, none⟩ = some (.string ⟨#[45]⟩) -> wx.cell? ⟨g, 1, none⟩ = some (.string ⟨#[45]⟩) -> Calls Tryz.prog 6 #[.string ⟨#[99, 109, 112]⟩, .slice (some ⟨g, 0, none⟩) 2 2, .iface 27 (.agg #[.string tt, .int .i64 0, .slice none 0 0])] wx fun e w' => e = .returned (.agg #[.string ⟨#[]⟩, .string ⟨#[]⟩, .int .i64 0]) ∧ Keeps NoB wx w') := Lib.hid fun wx g h0 h1 => cmp_run tt wx (row_2J wx g _ _ h0 h1)
    have HDn := Lib.hid (fun w1 : World => digits_any tt.size (by have := HTz.out; omega) w1)
    clear HCk HWc o0 o1 o2 ol hg1 hg2 hkq HO HR HTS H10S
    have hz8 : (tt.size : Int) <= 5000 := by have := HTz.out; omega
    have g1 := HG1.out
    have g2 := HG2.out
    have gl1 := lt_of_cell g1
    have gl2 := lt_of_cell g2
    go_upto_region 18 with (go_at_call 9; go_loud (refine (HDn.out _).mono ?_); rintro e w8 ⟨rfl, hk8⟩)
    have gk1 : G1 < w8.heap.size := Nat.lt_of_lt_of_le gl1 hk8.size
    have gk2 : G2 < w8.heap.size := Nat.lt_of_lt_of_le gl2 hk8.size
    have HGw1 : Hid (w8.cell? ⟨G1, 0, none⟩ = some (.string ta)) := Lib.hid ((hk8.cell (p := ⟨G1, 0, none⟩) gl1 (fun h => h)).trans HG1.out)
    have HGw2 : Hid (w8.cell? ⟨G2, 0, none⟩ = some (.string tb)) := Lib.hid ((hk8.cell (p := ⟨G2, 0, none⟩) gl2 (fun h => h)).trans HG2.out)
    have HRw := Lib.hid (HRq.out.on hk8)
    have HOw := Lib.hid (HOq.out.on hk8)
    have HKw := Lib.hid ((HKS.out.trans HKq.out).trans hk8)
    have HOf : Hid (∀ (wx : World) (B cp : Nat), wx.heap.size = B -> grownCap wx tt.size 0 5 = cp -> Calls Tryz.prog 10 #[.slice (some ⟨B, 0, none⟩) tt.size cp] (Lib.bytesWorld wx 5 tt) fun e w' => e = .returned (.int .u32 ((crcOf tt : Nat) : Int)) ∧ Lib.bytesWorld wx 5 tt = w') := Lib.hid fun wx B cp hB hc => by
     subst hB hc
     have h := r8Of_any _ tt.data.toList (conv_sl wx tt (by have := HTz.out; unfold maxLen; omega)).1 (by rw [len_data]; have := HTz.out; omega)
     rw [len_data] at h
     unfold crcOf
     exact h
    have HCv : Hid (∀ wx : World, Keeps NoB wx (Lib.bytesWorld wx 5 tt)) := Lib.hid fun wx => (conv_sl wx tt (by have := HTz.out; unfold maxLen; omega)).2
    have hconv := fun wx => Lib.run_convert_string_bytes (P := Tryz.prog) wx 9 28 5 tt Tryz.underlying9 Tryz.underlying28 Tryz.underlying5
    have HDc := Lib.hid (fun w1 : World => digits_any (crcOf tt) (Nat.lt_trans (crcOf_lt tt) (by decide)) w1)
    have hta := HTa.out
    have htb := HTb.out
    unfold lineB at hta
    have hd1 : (decB (crcOf tt)).size <= 20 := by rw [decB_size]; exact nd20 _ (Nat.lt_trans (crcOf_lt tt) (by decide))
    have hd2 : (decB tt.size).size <= 20 := by rw [decB_size]; exact nd20 _ (by have := HTz.out; omega)
    have hcl : ((crcOf tt : Nat) : Int) < 4294967296 := by have := crcOf_lt tt; omega
    have hwc : IntKind.u64.wrap ((crcOf tt : Nat) : Int) = ((crcOf tt : Nat) : Int) := by rw [IntKind.wrap_u64]; omega
    have hfi : ∀ (r : Int) (wx : World), (Instr.field 31 (.agg #[.string ⟨#[]⟩, .string ⟨#[]⟩, .int .i64 r]) 2).run Tryz.prog wx = .ok (.int .i64 r) wx := fun _ _ => rfl
    have hs11 : ¬ 9223372036854775807 < (decB (crcOf tt)).size + 1 := by omega
    have hs12 : ¬ 9223372036854775807 < (decB (crcOf tt)).size + 1 + (decB tt.size).size := by omega
    have hs13 : ¬ 9223372036854775807 < (decB (crcOf tt)).size + 1 + (decB tt.size).size + 1 := by omega
    have hs14 : ¬ 9223372036854775807 < (decB tt.size).size + 1 := by omega
    clear HG1 HG2 HRq HOq HKq HDn g1 g2 gl1 gl2 hk8 HTz HTa HTb
    generalize decB (crcOf tt) = da at *
    generalize decB tt.size = db at *
    generalize crcOf tt = cc at *
    have p0 := HRw.out.cell 0 _ rfl
    have p1 := HRw.out.cell 1 _ rfl
    have p2 := HRw.out.cell 2 _ rfl
    have q0 := HOw.out.cell 0 _ rfl
    have q1 := HOw.out.cell 1 _ rfl
    have q2 := HOw.out.cell 2 _ rfl
    have pg1 := HGw1.out
    have pg2 := HGw2.out
    have krd := (Keeps.refl NoB w8).drew
    -- region 18
    refine wp_region_held_drew (S := (fun wz => wz.cell? ⟨RB, 0, none⟩ = some (.string tt) ∧ wz.cell? ⟨RB, 1, none⟩ = some (.string ⟨#[]⟩) ∧ wz.cell? ⟨RB, 2, none⟩ = some (.int .i64 0) ∧ wz.cell? ⟨RB + 1, 0, none⟩ = some (.string tt) ∧ wz.cell? ⟨RB + 1, 1, none⟩ = some (.int .i64 0) ∧ wz.cell? ⟨RB + 1, 2, none⟩ = some (.slice none 0 0) ∧ wz.cell? ⟨G1, 0, none⟩ = some (.string ta) ∧ wz.cell? ⟨G2, 0, none⟩ = some (.string tb) ∧ Keeps NoB w8 wz)) (by kernel_rfl) ?_ (fun hHeld => ?_)
    ·(refine ⟨?_, ?_, ?_, ?_, ?_, ?_, ?_, ?_, ?_⟩ <;> first | with_reducible assumption | (with_reducible refine (HRw.out.on ?_).cell 0 _ rfl; (repeat (first | with_reducible assumption | (with_reducible exact Keeps.refl _ _) | (with_reducible refine Keeps.drew ?_) | (with_reducible refine Keeps.drewN ?_ _) | (with_reducible refine Keeps.alloc ?_ _) | (with_reducible refine Keeps.trans ?_ (HCv.out _)))); done) | (with_reducible refine (HRw.out.on ?_).cell 1 _ rfl; (repeat (first | with_reducible assumption | (with_reducible exact Keeps.refl _ _) | (with_reducible refine Keeps.drew ?_) | (with_reducible refine Keeps.drewN ?_ _) | (with_reducible refine Keeps.alloc ?_ _) | (with_reducible refine Keeps.trans ?_ (HCv.out _)))); done) | (with_reducible refine (HRw.out.on ?_).cell 2 _ rfl; (repeat (first | with_reducible assumption | (with_reducible exact Keeps.refl _ _) | (with_reducible refine Keeps.drew ?_) | (with_reducible refine Keeps.drewN ?_ _) | (with_reducible refine Keeps.alloc ?_ _) | (with_reducible refine Keeps.trans ?_ (HCv.out _)))); done) | (with_reducible refine (HOw.out.on ?_).cell 0 _ rfl; (repeat (first | with_reducible assumption | (with_reducible exact Keeps.refl _ _) | (with_reducible refine Keeps.drew ?_) | (with_reducible refine Keeps.drewN ?_ _) | (with_reducible refine Keeps.alloc ?_ _) | (with_reducible refine Keeps.trans ?_ (HCv.out _)))); done) | (with_reducible refine (HOw.out.on ?_).cell 1 _ rfl; (repeat (first | with_reducible assumption | (with_reducible exact Keeps.refl _ _) | (with_reducible refine Keeps.drew ?_) | (with_reducible refine Keeps.drewN ?_ _) | (with_reducible refine Keeps.alloc ?_ _) | (with_reducible refine Keeps.trans ?_ (HCv.out _)))); done) | (with_reducible refine (HOw.out.on ?_).cell 2 _ rfl; (repeat (first | with_reducible assumption | (with_reducible exact Keeps.refl _ _) | (with_reducible refine Keeps.drew ?_) | (with_reducible refine Keeps.drewN ?_ _) | (with_reducible refine Keeps.alloc ?_ _) | (with_reducible refine Keeps.trans ?_ (HCv.out _)))); done) | (with_reducible refine (Keeps.cell (F := NoB) (p := ⟨G1, 0, none⟩) ?_ gk1 (fun h => h)).trans HGw1.out; (repeat (first | with_reducible assumption | (with_reducible exact Keeps.refl _ _) | (with_reducible refine Keeps.drew ?_) | (with_reducible refine Keeps.drewN ?_ _) | (with_reducible refine Keeps.alloc ?_ _) | (with_reducible refine Keeps.trans ?_ (HCv.out _)))); done) | (with_reducible refine (Keeps.cell (F := NoB) (p := ⟨G2, 0, none⟩) ?_ gk2 (fun h => h)).trans HGw2.out; (repeat (first | with_reducible assumption | (with_reducible exact Keeps.refl _ _) | (with_reducible refine Keeps.drew ?_) | (with_reducible refine Keeps.drewN ?_ _) | (with_reducible refine Keeps.alloc ?_ _) | (with_reducible refine Keeps.trans ?_ (HCv.out _)))); done) | ((repeat (first | with_reducible assumption | (with_reducible exact Keeps.refl _ _) | (with_reducible refine Keeps.drew ?_) | (with_reducible refine Keeps.drewN ?_ _) | (with_reducible refine Keeps.alloc ?_ _) | (with_reducible refine Keeps.trans ?_ (HCv.out _)))); done))
    refine wpAnyH_take (i := 0) (v := ?_) (by simp only [List.getElem?_toArray, List.getElem?_cons_succ, List.getElem?_cons_zero]; rfl) (by kernel_rfl) (by kernel_rfl) (by kernel_rfl) (by intro _ _ _ h; exact h) (Or.inl ⟨by rfl, ?_⟩) (by assumption) ?_
    rotate_left
    ·((intro w hSw; (try dsimp only at hSw); go_simp); (try with_reducible rfl))
    try simp only [Act.put, List.setIfInBounds_toArray, List.set_cons_zero, List.set_cons_succ]
    refine wpAnyH_take (i := 1) (v := ?_) (by simp only [List.getElem?_toArray, List.getElem?_cons_succ, List.getElem?_cons_zero]; rfl) (by kernel_rfl) (by kernel_rfl) (by kernel_rfl) (by intro _ _ _ h; exact h) (Or.inl ⟨by rfl, ?_⟩) (by assumption) ?_
    rotate_left
    ·((intro w hSw; (try dsimp only at hSw); go_simp); (try with_reducible rfl))
    try simp only [Act.put, List.setIfInBounds_toArray, List.set_cons_zero, List.set_cons_succ]
    refine wpAnyH_take (i := 2) (v := ?_) (by simp only [List.getElem?_toArray, List.getElem?_cons_succ, List.getElem?_cons_zero]; rfl) (by kernel_rfl) (by kernel_rfl) (by kernel_rfl) (by intro _ _ _ h; exact h) (Or.inl ⟨by rfl, ?_⟩) (by assumption) ?_
    rotate_left
    ·((intro w hSw; (try dsimp only at hSw); go_simp); (try with_reducible rfl))
    try simp only [Act.put, List.setIfInBounds_toArray, List.set_cons_zero, List.set_cons_succ]
    refine wpAnyH_take (i := 3) (v := ?_) (by simp only [List.getElem?_toArray, List.getElem?_cons_succ, List.getElem?_cons_zero]; rfl) (by kernel_rfl) (by kernel_rfl) (by kernel_rfl) (by intro _ _ _ h; exact h) (Or.inl ⟨by rfl, ?_⟩) (by assumption) ?_
    rotate_left
    ·((intro w hSw; (try dsimp only at hSw); go_simp); (try with_reducible rfl))
    try simp only [Act.put, List.setIfInBounds_toArray, List.set_cons_zero, List.set_cons_succ]
    refine wpAnyH_take (i := 4) (v := ?_) (by simp only [List.getElem?_toArray, List.getElem?_cons_succ, List.getElem?_cons_zero]; rfl) (by kernel_rfl) (by kernel_rfl) (by kernel_rfl) (by intro _ _ _ h; exact h) (Or.inl ⟨by rfl, ?_⟩) (by assumption) ?_
    rotate_left
    ·((intro w hSw; (try dsimp only at hSw); go_simp); (try with_reducible rfl))
    try simp only [Act.put, List.setIfInBounds_toArray, List.set_cons_zero, List.set_cons_succ]
    refine wpAnyH_take (i := 5) (v := ?_) (by simp only [List.getElem?_toArray, List.getElem?_cons_succ, List.getElem?_cons_zero]; rfl) (by kernel_rfl) (by kernel_rfl) (by kernel_rfl) (by intro _ _ _ h; exact h) (Or.inl ⟨by rfl, ?_⟩) (by assumption) ?_
    rotate_left
    ·((intro w hSw; (try dsimp only at hSw); go_simp); (try with_reducible rfl))
    try simp only [Act.put, List.setIfInBounds_toArray, List.set_cons_zero, List.set_cons_succ]
    refine wpAnyH_take (i := 6) (v := ?_) (by simp only [List.getElem?_toArray, List.getElem?_cons_succ, List.getElem?_cons_zero]; rfl) (by kernel_rfl) (by kernel_rfl) (by kernel_rfl) (by intro _ _ _ h; exact h) (Or.inl ⟨by rfl, ?_⟩) (by assumption) ?_
    rotate_left
    ·((intro w hSw; (try dsimp only at hSw); go_simp); (try with_reducible rfl))
    try simp only [Act.put, List.setIfInBounds_toArray, List.set_cons_zero, List.set_cons_succ]
    refine wpAnyH_take (i := 7) (v := ?_) (by simp only [List.getElem?_toArray, List.getElem?_cons_succ, List.getElem?_cons_zero]; rfl) (by kernel_rfl) (by kernel_rfl) (by kernel_rfl) (by intro _ _ _ h; exact h) (Or.inl ⟨by rfl, ?_⟩) (by assumption) ?_
    rotate_left
    ·((intro w hSw; (try dsimp only at hSw); go_simp); (try with_reducible rfl))
    try simp only [Act.put, List.setIfInBounds_toArray, List.set_cons_zero, List.set_cons_succ]
    refine wpAnyH_take (i := 13) (v := ?_) (by simp only [List.getElem?_toArray, List.getElem?_cons_succ, List.getElem?_cons_zero]; rfl) (by kernel_rfl) (by kernel_rfl) (by kernel_rfl) (by intro _ _ _ h; exact h) (Or.inl ⟨by rfl, ?_⟩) (by assumption) ?_
    rotate_left
    ·((intro w hSw; (try dsimp only at hSw); go_simp); (try with_reducible rfl))
    try simp only [Act.put, List.setIfInBounds_toArray, List.set_cons_zero, List.set_cons_succ]
    refine wpAnyH_ready (rs := [8]) (by kernel_rfl) (by simp) (AllReadyH.cons rfl (fun K hK => ?_) AllReadyH.nil)
    have HKK := Lib.hid hK
    clear hK
    go_simp
    refine HKK.out.out _ _ ?_ (fun hHeld => ?_)
    ·(refine ⟨?_, ?_, ?_, ?_, ?_, ?_, ?_, ?_, ?_⟩ <;> first | with_reducible assumption | (with_reducible refine (HRw.out.on ?_).cell 0 _ rfl; (repeat (first | with_reducible assumption | (with_reducible exact Keeps.refl _ _) | (with_reducible refine Keeps.drew ?_) | (with_reducible refine Keeps.drewN ?_ _) | (with_reducible refine Keeps.alloc ?_ _) | (with_reducible refine Keeps.trans ?_ (HCv.out _)))); done) | (with_reducible refine (HRw.out.on ?_).cell 1 _ rfl; (repeat (first | with_reducible assumption | (with_reducible exact Keeps.refl _ _) | (with_reducible refine Keeps.drew ?_) | (with_reducible refine Keeps.drewN ?_ _) | (with_reducible refine Keeps.alloc ?_ _) | (with_reducible refine Keeps.trans ?_ (HCv.out _)))); done) | (with_reducible refine (HRw.out.on ?_).cell 2 _ rfl; (repeat (first | with_reducible assumption | (with_reducible exact Keeps.refl _ _) | (with_reducible refine Keeps.drew ?_) | (with_reducible refine Keeps.drewN ?_ _) | (with_reducible refine Keeps.alloc ?_ _) | (with_reducible refine Keeps.trans ?_ (HCv.out _)))); done) | (with_reducible refine (HOw.out.on ?_).cell 0 _ rfl; (repeat (first | with_reducible assumption | (with_reducible exact Keeps.refl _ _) | (with_reducible refine Keeps.drew ?_) | (with_reducible refine Keeps.drewN ?_ _) | (with_reducible refine Keeps.alloc ?_ _) | (with_reducible refine Keeps.trans ?_ (HCv.out _)))); done) | (with_reducible refine (HOw.out.on ?_).cell 1 _ rfl; (repeat (first | with_reducible assumption | (with_reducible exact Keeps.refl _ _) | (with_reducible refine Keeps.drew ?_) | (with_reducible refine Keeps.drewN ?_ _) | (with_reducible refine Keeps.alloc ?_ _) | (with_reducible refine Keeps.trans ?_ (HCv.out _)))); done) | (with_reducible refine (HOw.out.on ?_).cell 2 _ rfl; (repeat (first | with_reducible assumption | (with_reducible exact Keeps.refl _ _) | (with_reducible refine Keeps.drew ?_) | (with_reducible refine Keeps.drewN ?_ _) | (with_reducible refine Keeps.alloc ?_ _) | (with_reducible refine Keeps.trans ?_ (HCv.out _)))); done) | (with_reducible refine (Keeps.cell (F := NoB) (p := ⟨G1, 0, none⟩) ?_ gk1 (fun h => h)).trans HGw1.out; (repeat (first | with_reducible assumption | (with_reducible exact Keeps.refl _ _) | (with_reducible refine Keeps.drew ?_) | (with_reducible refine Keeps.drewN ?_ _) | (with_reducible refine Keeps.alloc ?_ _) | (with_reducible refine Keeps.trans ?_ (HCv.out _)))); done) | (with_reducible refine (Keeps.cell (F := NoB) (p := ⟨G2, 0, none⟩) ?_ gk2 (fun h => h)).trans HGw2.out; (repeat (first | with_reducible assumption | (with_reducible exact Keeps.refl _ _) | (with_reducible refine Keeps.drew ?_) | (with_reducible refine Keeps.drewN ?_ _) | (with_reducible refine Keeps.alloc ?_ _) | (with_reducible refine Keeps.trans ?_ (HCv.out _)))); done) | ((repeat (first | with_reducible assumption | (with_reducible exact Keeps.refl _ _) | (with_reducible refine Keeps.drew ?_) | (with_reducible refine Keeps.drewN ?_ _) | (with_reducible refine Keeps.alloc ?_ _) | (with_reducible refine Keeps.trans ?_ (HCv.out _)))); done))
    clear HKK
    clear K
    try simp only [Act.put, List.setIfInBounds_toArray, List.set_cons_zero, List.set_cons_succ]
    refine wpAnyH_ready (rs := [9]) (by kernel_rfl) (by simp) (AllReadyH.cons rfl (fun K hK => ?_) AllReadyH.nil)
    have HKK := Lib.hid hK
    clear hK
    go_simp
    go_wp2_with (first | (go_at_call 10; with_reducible refine (HOf.out _ _ _ ?_ ?_).mono ?_; (focus (first | rfl | (simp; done))); (focus (first | rfl | (simp; done))); rintro e v1 ⟨rfl, rfl⟩) | (go_at_call 9; with_reducible refine (HDc.out _).mono ?_; rintro e v2 ⟨rfl, hk2⟩; have zk2 : Keeps NoB w8 v2 := Keeps.trans (by (repeat (first | with_reducible assumption | (with_reducible exact Keeps.refl _ _) | (with_reducible refine Keeps.drew ?_) | (with_reducible refine Keeps.drewN ?_ _) | (with_reducible refine Keeps.alloc ?_ _) | (with_reducible refine Keeps.trans ?_ (HCv.out _))))) hk2; have y0 := (HRw.out.on zk2).cell 0 _ rfl; have y1 := (HRw.out.on zk2).cell 1 _ rfl; have y2 := (HRw.out.on zk2).cell 2 _ rfl; have y3 := (HOw.out.on zk2).cell 0 _ rfl; have y4 := (HOw.out.on zk2).cell 1 _ rfl; have y5 := (HOw.out.on zk2).cell 2 _ rfl; have yg1 := (Keeps.cell (F := NoB) (p := ⟨G1, 0, none⟩) zk2 gk1 (fun h => h)).trans HGw1.out; have yg2 := (Keeps.cell (F := NoB) (p := ⟨G2, 0, none⟩) zk2 gk2 (fun h => h)).trans HGw2.out) | (go_at_call 6; with_reducible refine (HCm.out _ _ ?_ ?_).mono ?_; (focus (first | with_reducible assumption | (go_simp; done))); (focus (first | with_reducible assumption | (go_simp; done))); rintro e v3 ⟨rfl, hk3⟩; have zk3 : Keeps NoB w8 v3 := Keeps.trans (by (repeat (first | with_reducible assumption | (with_reducible exact Keeps.refl _ _) | (with_reducible refine Keeps.drew ?_) | (with_reducible refine Keeps.drewN ?_ _) | (with_reducible refine Keeps.alloc ?_ _) | (with_reducible refine Keeps.trans ?_ (HCv.out _))))) hk3; have y0 := (HRw.out.on zk3).cell 0 _ rfl; have y1 := (HRw.out.on zk3).cell 1 _ rfl; have y2 := (HRw.out.on zk3).cell 2 _ rfl; have y3 := (HOw.out.on zk3).cell 0 _ rfl; have y4 := (HOw.out.on zk3).cell 1 _ rfl; have y5 := (HOw.out.on zk3).cell 2 _ rfl; have yg1 := (Keeps.cell (F := NoB) (p := ⟨G1, 0, none⟩) zk3 gk1 (fun h => h)).trans HGw1.out; have yg2 := (Keeps.cell (F := NoB) (p := ⟨G2, 0, none⟩) zk3 gk2 (fun h => h)).trans HGw2.out))
    refine HKK.out.out _ _ ?_ (fun hHeld => ?_)
    ·(refine ⟨?_, ?_, ?_, ?_, ?_, ?_, ?_, ?_, ?_⟩ <;> first | with_reducible assumption | (with_reducible refine (HRw.out.on ?_).cell 0 _ rfl; (repeat (first | with_reducible assumption | (with_reducible exact Keeps.refl _ _) | (with_reducible refine Keeps.drew ?_) | (with_reducible refine Keeps.drewN ?_ _) | (with_reducible refine Keeps.alloc ?_ _) | (with_reducible refine Keeps.trans ?_ (HCv.out _)))); done) | (with_reducible refine (HRw.out.on ?_).cell 1 _ rfl; (repeat (first | with_reducible assumption | (with_reducible exact Keeps.refl _ _) | (with_reducible refine Keeps.drew ?_) | (with_reducible refine Keeps.drewN ?_ _) | (with_reducible refine Keeps.alloc ?_ _) | (with_reducible refine Keeps.trans ?_ (HCv.out _)))); done) | (with_reducible refine (HRw.out.on ?_).cell 2 _ rfl; (repeat (first | with_reducible assumption | (with_reducible exact Keeps.refl _ _) | (with_reducible refine Keeps.drew ?_) | (with_reducible refine Keeps.drewN ?_ _) | (with_reducible refine Keeps.alloc ?_ _) | (with_reducible refine Keeps.trans ?_ (HCv.out _)))); done) | (with_reducible refine (HOw.out.on ?_).cell 0 _ rfl; (repeat (first | with_reducible assumption | (with_reducible exact Keeps.refl _ _) | (with_reducible refine Keeps.drew ?_) | (with_reducible refine Keeps.drewN ?_ _) | (with_reducible refine Keeps.alloc ?_ _) | (with_reducible refine Keeps.trans ?_ (HCv.out _)))); done) | (with_reducible refine (HOw.out.on ?_).cell 1 _ rfl; (repeat (first | with_reducible assumption | (with_reducible exact Keeps.refl _ _) | (with_reducible refine Keeps.drew ?_) | (with_reducible refine Keeps.drewN ?_ _) | (with_reducible refine Keeps.alloc ?_ _) | (with_reducible refine Keeps.trans ?_ (HCv.out _)))); done) | (with_reducible refine (HOw.out.on ?_).cell 2 _ rfl; (repeat (first | with_reducible assumption | (with_reducible exact Keeps.refl _ _) | (with_reducible refine Keeps.drew ?_) | (with_reducible refine Keeps.drewN ?_ _) | (with_reducible refine Keeps.alloc ?_ _) | (with_reducible refine Keeps.trans ?_ (HCv.out _)))); done) | (with_reducible refine (Keeps.cell (F := NoB) (p := ⟨G1, 0, none⟩) ?_ gk1 (fun h => h)).trans HGw1.out; (repeat (first | with_reducible assumption | (with_reducible exact Keeps.refl _ _) | (with_reducible refine Keeps.drew ?_) | (with_reducible refine Keeps.drewN ?_ _) | (with_reducible refine Keeps.alloc ?_ _) | (with_reducible refine Keeps.trans ?_ (HCv.out _)))); done) | (with_reducible refine (Keeps.cell (F := NoB) (p := ⟨G2, 0, none⟩) ?_ gk2 (fun h => h)).trans HGw2.out; (repeat (first | with_reducible assumption | (with_reducible exact Keeps.refl _ _) | (with_reducible refine Keeps.drew ?_) | (with_reducible refine Keeps.drewN ?_ _) | (with_reducible refine Keeps.alloc ?_ _) | (with_reducible refine Keeps.trans ?_ (HCv.out _)))); done) | ((repeat (first | with_reducible assumption | (with_reducible exact Keeps.refl _ _) | (with_reducible refine Keeps.drew ?_) | (with_reducible refine Keeps.drewN ?_ _) | (with_reducible refine Keeps.alloc ?_ _) | (with_reducible refine Keeps.trans ?_ (HCv.out _)))); done))
    clear HKK
    clear K
    try simp only [Act.put, List.setIfInBounds_toArray, List.set_cons_zero, List.set_cons_succ]
    refine wpAnyH_take (i := 10) (v := ?_) (by simp only [List.getElem?_toArray, List.getElem?_cons_succ, List.getElem?_cons_zero]; rfl) (by kernel_rfl) (by kernel_rfl) (by kernel_rfl) (by intro _ _ _ h; exact h) (Or.inl ⟨by rfl, ?_⟩) (by assumption) ?_
    rotate_left
    ·((intro w hSw; (try dsimp only at hSw); go_simp); (try with_reducible rfl))
    try simp only [Act.put, List.setIfInBounds_toArray, List.set_cons_zero, List.set_cons_succ]
    refine wpAnyH_ready (rs := [11]) (by kernel_rfl) (by simp) (AllReadyH.cons rfl (fun K hK => ?_) AllReadyH.nil)
    have HKK := Lib.hid hK
    clear hK
    go_simp
    go_wp2_with (first | (go_at_call 10; with_reducible refine (HOf.out _ _ _ ?_ ?_).mono ?_; (focus (first | rfl | (simp; done))); (focus (first | rfl | (simp; done))); rintro e v1 ⟨rfl, rfl⟩) | (go_at_call 9; with_reducible refine (HDc.out _).mono ?_; rintro e v2 ⟨rfl, hk2⟩; have zk2 : Keeps NoB w8 v2 := Keeps.trans (by (repeat (first | with_reducible assumption | (with_reducible exact Keeps.refl _ _) | (with_reducible refine Keeps.drew ?_) | (with_reducible refine Keeps.drewN ?_ _) | (with_reducible refine Keeps.alloc ?_ _) | (with_reducible refine Keeps.trans ?_ (HCv.out _))))) hk2; have y0 := (HRw.out.on zk2).cell 0 _ rfl; have y1 := (HRw.out.on zk2).cell 1 _ rfl; have y2 := (HRw.out.on zk2).cell 2 _ rfl; have y3 := (HOw.out.on zk2).cell 0 _ rfl; have y4 := (HOw.out.on zk2).cell 1 _ rfl; have y5 := (HOw.out.on zk2).cell 2 _ rfl; have yg1 := (Keeps.cell (F := NoB) (p := ⟨G1, 0, none⟩) zk2 gk1 (fun h => h)).trans HGw1.out; have yg2 := (Keeps.cell (F := NoB) (p := ⟨G2, 0, none⟩) zk2 gk2 (fun h => h)).trans HGw2.out) | (go_at_call 6; with_reducible refine (HCm.out _ _ ?_ ?_).mono ?_; (focus (first | with_reducible assumption | (go_simp; done))); (focus (first | with_reducible assumption | (go_simp; done))); rintro e v3 ⟨rfl, hk3⟩; have zk3 : Keeps NoB w8 v3 := Keeps.trans (by (repeat (first | with_reducible assumption | (with_reducible exact Keeps.refl _ _) | (with_reducible refine Keeps.drew ?_) | (with_reducible refine Keeps.drewN ?_ _) | (with_reducible refine Keeps.alloc ?_ _) | (with_reducible refine Keeps.trans ?_ (HCv.out _))))) hk3; have y0 := (HRw.out.on zk3).cell 0 _ rfl; have y1 := (HRw.out.on zk3).cell 1 _ rfl; have y2 := (HRw.out.on zk3).cell 2 _ rfl; have y3 := (HOw.out.on zk3).cell 0 _ rfl; have y4 := (HOw.out.on zk3).cell 1 _ rfl; have y5 := (HOw.out.on zk3).cell 2 _ rfl; have yg1 := (Keeps.cell (F := NoB) (p := ⟨G1, 0, none⟩) zk3 gk1 (fun h => h)).trans HGw1.out; have yg2 := (Keeps.cell (F := NoB) (p := ⟨G2, 0, none⟩) zk3 gk2 (fun h => h)).trans HGw2.out))
    refine HKK.out.out _ _ ?_ (fun hHeld => ?_)
    ·(refine ⟨?_, ?_, ?_, ?_, ?_, ?_, ?_, ?_, ?_⟩ <;> first | with_reducible assumption | (with_reducible refine (HRw.out.on ?_).cell 0 _ rfl; (repeat (first | with_reducible assumption | (with_reducible exact Keeps.refl _ _) | (with_reducible refine Keeps.drew ?_) | (with_reducible refine Keeps.drewN ?_ _) | (with_reducible refine Keeps.alloc ?_ _) | (with_reducible refine Keeps.trans ?_ (HCv.out _)))); done) | (with_reducible refine (HRw.out.on ?_).cell 1 _ rfl; (repeat (first | with_reducible assumption | (with_reducible exact Keeps.refl _ _) | (with_reducible refine Keeps.drew ?_) | (with_reducible refine Keeps.drewN ?_ _) | (with_reducible refine Keeps.alloc ?_ _) | (with_reducible refine Keeps.trans ?_ (HCv.out _)))); done) | (with_reducible refine (HRw.out.on ?_).cell 2 _ rfl; (repeat (first | with_reducible assumption | (with_reducible exact Keeps.refl _ _) | (with_reducible refine Keeps.drew ?_) | (with_reducible refine Keeps.drewN ?_ _) | (with_reducible refine Keeps.alloc ?_ _) | (with_reducible refine Keeps.trans ?_ (HCv.out _)))); done) | (with_reducible refine (HOw.out.on ?_).cell 0 _ rfl; (repeat (first | with_reducible assumption | (with_reducible exact Keeps.refl _ _) | (with_reducible refine Keeps.drew ?_) | (with_reducible refine Keeps.drewN ?_ _) | (with_reducible refine Keeps.alloc ?_ _) | (with_reducible refine Keeps.trans ?_ (HCv.out _)))); done) | (with_reducible refine (HOw.out.on ?_).cell 1 _ rfl; (repeat (first | with_reducible assumption | (with_reducible exact Keeps.refl _ _) | (with_reducible refine Keeps.drew ?_) | (with_reducible refine Keeps.drewN ?_ _) | (with_reducible refine Keeps.alloc ?_ _) | (with_reducible refine Keeps.trans ?_ (HCv.out _)))); done) | (with_reducible refine (HOw.out.on ?_).cell 2 _ rfl; (repeat (first | with_reducible assumption | (with_reducible exact Keeps.refl _ _) | (with_reducible refine Keeps.drew ?_) | (with_reducible refine Keeps.drewN ?_ _) | (with_reducible refine Keeps.alloc ?_ _) | (with_reducible refine Keeps.trans ?_ (HCv.out _)))); done) | (with_reducible refine (Keeps.cell (F := NoB) (p := ⟨G1, 0, none⟩) ?_ gk1 (fun h => h)).trans HGw1.out; (repeat (first | with_reducible assumption | (with_reducible exact Keeps.refl _ _) | (with_reducible refine Keeps.drew ?_) | (with_reducible refine Keeps.drewN ?_ _) | (with_reducible refine Keeps.alloc ?_ _) | (with_reducible refine Keeps.trans ?_ (HCv.out _)))); done) | (with_reducible refine (Keeps.cell (F := NoB) (p := ⟨G2, 0, none⟩) ?_ gk2 (fun h => h)).trans HGw2.out; (repeat (first | with_reducible assumption | (with_reducible exact Keeps.refl _ _) | (with_reducible refine Keeps.drew ?_) | (with_reducible refine Keeps.drewN ?_ _) | (with_reducible refine Keeps.alloc ?_ _) | (with_reducible refine Keeps.trans ?_ (HCv.out _)))); done) | ((repeat (first | with_reducible assumption | (with_reducible exact Keeps.refl _ _) | (with_reducible refine Keeps.drew ?_) | (with_reducible refine Keeps.drewN ?_ _) | (with_reducible refine Keeps.alloc ?_ _) | (with_reducible refine Keeps.trans ?_ (HCv.out _)))); done))
    clear HKK
    clear K
    try simp only [Act.put, List.setIfInBounds_toArray, List.set_cons_zero, List.set_cons_succ]
    refine wpAnyH_take (i := 12) (v := ?_) (by simp only [List.getElem?_toArray, List.getElem?_cons_succ, List.getElem?_cons_zero]; rfl) (by kernel_rfl) (by kernel_rfl) (by kernel_rfl) (by intro _ _ _ h; exact h) (Or.inl ⟨by rfl, ?_⟩) (by assumption) ?_
    rotate_left
    ·((intro w hSw; (try dsimp only at hSw); go_simp); (try with_reducible rfl))
    try simp only [Act.put, List.setIfInBounds_toArray, List.set_cons_zero, List.set_cons_succ]
    refine wpAnyH_take (i := 14) (v := ?_) (by simp only [List.getElem?_toArray, List.getElem?_cons_succ, List.getElem?_cons_zero]; rfl) (by kernel_rfl) (by kernel_rfl) (by kernel_rfl) (by intro _ _ _ h; exact h) (Or.inl ⟨by rfl, ?_⟩) (by assumption) ?_
    rotate_left
    ·((intro w hSw; (try dsimp only at hSw); go_simp); (try with_reducible rfl))
    try simp only [Act.put, List.setIfInBounds_toArray, List.set_cons_zero, List.set_cons_succ]
    refine wpAnyH_take (i := 15) (v := ?_) (by simp only [List.getElem?_toArray, List.getElem?_cons_succ, List.getElem?_cons_zero]; rfl) (by kernel_rfl) (by kernel_rfl) (by kernel_rfl) (by intro _ _ _ h; exact h) (Or.inl ⟨by rfl, ?_⟩) (by assumption) ?_
    rotate_left
    ·((intro w hSw; (try dsimp only at hSw); go_simp); (try with_reducible rfl))
    try simp only [Act.put, List.setIfInBounds_toArray, List.set_cons_zero, List.set_cons_succ]
    refine wpAnyH_take (i := 16) (v := ?_) (by simp only [List.getElem?_toArray, List.getElem?_cons_succ, List.getElem?_cons_zero]; rfl) (by kernel_rfl) (by kernel_rfl) (by kernel_rfl) (by intro _ _ _ h; exact h) (Or.inl ⟨by rfl, ?_⟩) (by assumption) ?_
    rotate_left
    ·((intro w hSw; (try dsimp only at hSw); go_simp); (try with_reducible rfl))
    try simp only [Act.put, List.setIfInBounds_toArray, List.set_cons_zero, List.set_cons_succ]
    refine wpAnyH_take (i := 17) (v := ?_) (by simp only [List.getElem?_toArray, List.getElem?_cons_succ, List.getElem?_cons_zero]; rfl) (by kernel_rfl) (by kernel_rfl) (by kernel_rfl) (by intro _ _ _ h; exact h) (Or.inl ⟨by rfl, ?_⟩) (by assumption) ?_
    rotate_left
    ·((intro w hSw; (try dsimp only at hSw); go_simp); (try with_reducible rfl))
    try simp only [Act.put, List.setIfInBounds_toArray, List.set_cons_zero, List.set_cons_succ]
    refine wpAnyH_take (i := 18) (v := ?_) (by simp only [List.getElem?_toArray, List.getElem?_cons_succ, List.getElem?_cons_zero]; rfl) (by kernel_rfl) (by kernel_rfl) (by kernel_rfl) (by intro _ _ _ h; exact h) (Or.inl ⟨by rfl, ?_⟩) (by assumption) ?_
    rotate_left
    ·((intro w hSw; (try dsimp only at hSw); go_simp); (try with_reducible rfl))
    try simp only [Act.put, List.setIfInBounds_toArray, List.set_cons_zero, List.set_cons_succ]
    refine wpAnyH_take (i := 19) (v := ?_) (by simp only [List.getElem?_toArray, List.getElem?_cons_succ, List.getElem?_cons_zero]; rfl) (by kernel_rfl) (by kernel_rfl) (by kernel_rfl) (by intro _ _ _ h; exact h) (Or.inl ⟨by rfl, ?_⟩) (by assumption) ?_
    rotate_left
    ·((intro w hSw; (try dsimp only at hSw); go_simp); (try with_reducible rfl))
    try simp only [Act.put, List.setIfInBounds_toArray, List.set_cons_zero, List.set_cons_succ]
    refine wpAnyH_take (i := 20) (v := ?_) (by simp only [List.getElem?_toArray, List.getElem?_cons_succ, List.getElem?_cons_zero]; rfl) (by kernel_rfl) (by kernel_rfl) (by kernel_rfl) (by intro _ _ _ h; exact h) (Or.inl ⟨by rfl, ?_⟩) (by assumption) ?_
    rotate_left
    ·((intro w hSw; (try dsimp only at hSw); go_simp); (try with_reducible rfl))
    try simp only [Act.put, List.setIfInBounds_toArray, List.set_cons_zero, List.set_cons_succ]
    refine wpAnyH_take (i := 21) (v := ?_) (by simp only [List.getElem?_toArray, List.getElem?_cons_succ, List.getElem?_cons_zero]; rfl) (by kernel_rfl) (by kernel_rfl) (by kernel_rfl) (by intro _ _ _ h; exact h) (Or.inl ⟨by rfl, ?_⟩) (by assumption) ?_
    rotate_left
    ·((intro w hSw; (try dsimp only at hSw); go_simp); (try with_reducible rfl))
    try simp only [Act.put, List.setIfInBounds_toArray, List.set_cons_zero, List.set_cons_succ]
    refine wpAnyH_take (i := 22) (v := ?_) (by simp only [List.getElem?_toArray, List.getElem?_cons_succ, List.getElem?_cons_zero]; rfl) (by kernel_rfl) (by kernel_rfl) (by kernel_rfl) (by intro _ _ _ h; exact h) (Or.inl ⟨by rfl, ?_⟩) (by assumption) ?_
    rotate_left
    ·((intro w hSw; (try dsimp only at hSw); go_simp); (try with_reducible rfl))
    try simp only [Act.put, List.setIfInBounds_toArray, List.set_cons_zero, List.set_cons_succ]
    refine wpAnyH_take (i := 23) (v := ?_) (by simp only [List.getElem?_toArray, List.getElem?_cons_succ, List.getElem?_cons_zero]; rfl) (by kernel_rfl) (by kernel_rfl) (by kernel_rfl) (by intro _ _ _ h; exact h) (Or.inl ⟨by rfl, ?_⟩) (by assumption) ?_
    rotate_left
    ·((intro w hSw; (try dsimp only at hSw); go_simp); (try with_reducible rfl))
    try simp only [Act.put, List.setIfInBounds_toArray, List.set_cons_zero, List.set_cons_succ]
    refine wpAnyH_take (i := 24) (v := ?_) (by simp only [List.getElem?_toArray, List.getElem?_cons_succ, List.getElem?_cons_zero]; rfl) (by kernel_rfl) (by kernel_rfl) (by kernel_rfl) (by intro _ _ _ h; exact h) (Or.inl ⟨by rfl, ?_⟩) (by assumption) ?_
    rotate_left
    ·((intro w hSw; (try dsimp only at hSw); go_simp); (try with_reducible rfl))
    try simp only [Act.put, List.setIfInBounds_toArray, List.set_cons_zero, List.set_cons_succ]
    refine wpAnyH_take (i := 25) (v := ?_) (by simp only [List.getElem?_toArray, List.getElem?_cons_succ, List.getElem?_cons_zero]; rfl) (by kernel_rfl) (by kernel_rfl) (by kernel_rfl) (by intro _ _ _ h; exact h) (Or.inl ⟨by rfl, ?_⟩) (by assumption) ?_
    rotate_left
    ·((intro w hSw; (try dsimp only at hSw); go_simp); (try with_reducible rfl))
    try simp only [Act.put, List.setIfInBounds_toArray, List.set_cons_zero, List.set_cons_succ]
    refine wpAnyH_take (i := 27) (v := ?_) (by simp only [List.getElem?_toArray, List.getElem?_cons_succ, List.getElem?_cons_zero]; rfl) (by kernel_rfl) (by kernel_rfl) (by kernel_rfl) (by intro _ _ _ h; exact h) (Or.inl ⟨by rfl, ?_⟩) (by assumption) ?_
    rotate_left
    ·((intro w hSw; (try dsimp only at hSw); go_simp); (try with_reducible rfl))
    try simp only [Act.put, List.setIfInBounds_toArray, List.set_cons_zero, List.set_cons_succ]
    refine wpAnyH_take (i := 28) (v := ?_) (by simp only [List.getElem?_toArray, List.getElem?_cons_succ, List.getElem?_cons_zero]; rfl) (by kernel_rfl) (by kernel_rfl) (by kernel_rfl) (by intro _ _ _ h; exact h) (Or.inl ⟨by rfl, ?_⟩) (by assumption) ?_
    rotate_left
    ·((intro w hSw; (try dsimp only at hSw); go_simp); (try with_reducible rfl))
    try simp only [Act.put, List.setIfInBounds_toArray, List.set_cons_zero, List.set_cons_succ]
    refine wpAnyH_ready (rs := [26]) (by kernel_rfl) (by simp) (AllReadyH.cons rfl (fun K hK => ?_) AllReadyH.nil)
    have HKK := Lib.hid hK
    clear hK
    go_simp
    refine HKK.out.out _ _ ?_ (fun hHeld => ?_)
    ·(refine ⟨?_, ?_, ?_, ?_, ?_, ?_, ?_, ?_, ?_⟩ <;> first | with_reducible assumption | (with_reducible refine (HRw.out.on ?_).cell 0 _ rfl; (repeat (first | with_reducible assumption | (with_reducible exact Keeps.refl _ _) | (with_reducible refine Keeps.drew ?_) | (with_reducible refine Keeps.drewN ?_ _) | (with_reducible refine Keeps.alloc ?_ _) | (with_reducible refine Keeps.trans ?_ (HCv.out _)))); done) | (with_reducible refine (HRw.out.on ?_).cell 1 _ rfl; (repeat (first | with_reducible assumption | (with_reducible exact Keeps.refl _ _) | (with_reducible refine Keeps.drew ?_) | (with_reducible refine Keeps.drewN ?_ _) | (with_reducible refine Keeps.alloc ?_ _) | (with_reducible refine Keeps.trans ?_ (HCv.out _)))); done) | (with_reducible refine (HRw.out.on ?_).cell 2 _ rfl; (repeat (first | with_reducible assumption | (with_reducible exact Keeps.refl _ _) | (with_reducible refine Keeps.drew ?_) | (with_reducible refine Keeps.drewN ?_ _) | (with_reducible refine Keeps.alloc ?_ _) | (with_reducible refine Keeps.trans ?_ (HCv.out _)))); done) | (with_reducible refine (HOw.out.on ?_).cell 0 _ rfl; (repeat (first | with_reducible assumption | (with_reducible exact Keeps.refl _ _) | (with_reducible refine Keeps.drew ?_) | (with_reducible refine Keeps.drewN ?_ _) | (with_reducible refine Keeps.alloc ?_ _) | (with_reducible refine Keeps.trans ?_ (HCv.out _)))); done) | (with_reducible refine (HOw.out.on ?_).cell 1 _ rfl; (repeat (first | with_reducible assumption | (with_reducible exact Keeps.refl _ _) | (with_reducible refine Keeps.drew ?_) | (with_reducible refine Keeps.drewN ?_ _) | (with_reducible refine Keeps.alloc ?_ _) | (with_reducible refine Keeps.trans ?_ (HCv.out _)))); done) | (with_reducible refine (HOw.out.on ?_).cell 2 _ rfl; (repeat (first | with_reducible assumption | (with_reducible exact Keeps.refl _ _) | (with_reducible refine Keeps.drew ?_) | (with_reducible refine Keeps.drewN ?_ _) | (with_reducible refine Keeps.alloc ?_ _) | (with_reducible refine Keeps.trans ?_ (HCv.out _)))); done) | (with_reducible refine (Keeps.cell (F := NoB) (p := ⟨G1, 0, none⟩) ?_ gk1 (fun h => h)).trans HGw1.out; (repeat (first | with_reducible assumption | (with_reducible exact Keeps.refl _ _) | (with_reducible refine Keeps.drew ?_) | (with_reducible refine Keeps.drewN ?_ _) | (with_reducible refine Keeps.alloc ?_ _) | (with_reducible refine Keeps.trans ?_ (HCv.out _)))); done) | (with_reducible refine (Keeps.cell (F := NoB) (p := ⟨G2, 0, none⟩) ?_ gk2 (fun h => h)).trans HGw2.out; (repeat (first | with_reducible assumption | (with_reducible exact Keeps.refl _ _) | (with_reducible refine Keeps.drew ?_) | (with_reducible refine Keeps.drewN ?_ _) | (with_reducible refine Keeps.alloc ?_ _) | (with_reducible refine Keeps.trans ?_ (HCv.out _)))); done) | ((repeat (first | with_reducible assumption | (with_reducible exact Keeps.refl _ _) | (with_reducible refine Keeps.drew ?_) | (with_reducible refine Keeps.drewN ?_ _) | (with_reducible refine Keeps.alloc ?_ _) | (with_reducible refine Keeps.trans ?_ (HCv.out _)))); done))
    clear HKK
    clear K
    try simp only [Act.put, List.setIfInBounds_toArray, List.set_cons_zero, List.set_cons_succ]
    refine wpAnyH_ready (rs := [29]) (by kernel_rfl) (by simp) (AllReadyH.cons rfl (fun K hK => ?_) AllReadyH.nil)
    have HKK := Lib.hid hK
    clear hK
    go_simp
    go_wp2_with (first | (go_at_call 10; with_reducible refine (HOf.out _ _ _ ?_ ?_).mono ?_; (focus (first | rfl | (simp; done))); (focus (first | rfl | (simp; done))); rintro e v1 ⟨rfl, rfl⟩) | (go_at_call 9; with_reducible refine (HDc.out _).mono ?_; rintro e v2 ⟨rfl, hk2⟩; have zk2 : Keeps NoB w8 v2 := Keeps.trans (by (repeat (first | with_reducible assumption | (with_reducible exact Keeps.refl _ _) | (with_reducible refine Keeps.drew ?_) | (with_reducible refine Keeps.drewN ?_ _) | (with_reducible refine Keeps.alloc ?_ _) | (with_reducible refine Keeps.trans ?_ (HCv.out _))))) hk2; have y0 := (HRw.out.on zk2).cell 0 _ rfl; have y1 := (HRw.out.on zk2).cell 1 _ rfl; have y2 := (HRw.out.on zk2).cell 2 _ rfl; have y3 := (HOw.out.on zk2).cell 0 _ rfl; have y4 := (HOw.out.on zk2).cell 1 _ rfl; have y5 := (HOw.out.on zk2).cell 2 _ rfl; have yg1 := (Keeps.cell (F := NoB) (p := ⟨G1, 0, none⟩) zk2 gk1 (fun h => h)).trans HGw1.out; have yg2 := (Keeps.cell (F := NoB) (p := ⟨G2, 0, none⟩) zk2 gk2 (fun h => h)).trans HGw2.out) | (go_at_call 6; with_reducible refine (HCm.out _ _ ?_ ?_).mono ?_; (focus (first | with_reducible assumption | (go_simp; done))); (focus (first | with_reducible assumption | (go_simp; done))); rintro e v3 ⟨rfl, hk3⟩; have zk3 : Keeps NoB w8 v3 := Keeps.trans (by (repeat (first | with_reducible assumption | (with_reducible exact Keeps.refl _ _) | (with_reducible refine Keeps.drew ?_) | (with_reducible refine Keeps.drewN ?_ _) | (with_reducible refine Keeps.alloc ?_ _) | (with_reducible refine Keeps.trans ?_ (HCv.out _))))) hk3; have y0 := (HRw.out.on zk3).cell 0 _ rfl; have y1 := (HRw.out.on zk3).cell 1 _ rfl; have y2 := (HRw.out.on zk3).cell 2 _ rfl; have y3 := (HOw.out.on zk3).cell 0 _ rfl; have y4 := (HOw.out.on zk3).cell 1 _ rfl; have y5 := (HOw.out.on zk3).cell 2 _ rfl; have yg1 := (Keeps.cell (F := NoB) (p := ⟨G1, 0, none⟩) zk3 gk1 (fun h => h)).trans HGw1.out; have yg2 := (Keeps.cell (F := NoB) (p := ⟨G2, 0, none⟩) zk3 gk2 (fun h => h)).trans HGw2.out))
    refine HKK.out.out _ _ ?_ (fun hHeld => ?_)
    ·(refine ⟨?_, ?_, ?_, ?_, ?_, ?_, ?_, ?_, ?_⟩ <;> first | with_reducible assumption | (with_reducible refine (HRw.out.on ?_).cell 0 _ rfl; (repeat (first | with_reducible assumption | (with_reducible exact Keeps.refl _ _) | (with_reducible refine Keeps.drew ?_) | (with_reducible refine Keeps.drewN ?_ _) | (with_reducible refine Keeps.alloc ?_ _) | (with_reducible refine Keeps.trans ?_ (HCv.out _)))); done) | (with_reducible refine (HRw.out.on ?_).cell 1 _ rfl; (repeat (first | with_reducible assumption | (with_reducible exact Keeps.refl _ _) | (with_reducible refine Keeps.drew ?_) | (with_reducible refine Keeps.drewN ?_ _) | (with_reducible refine Keeps.alloc ?_ _) | (with_reducible refine Keeps.trans ?_ (HCv.out _)))); done) | (with_reducible refine (HRw.out.on ?_).cell 2 _ rfl; (repeat (first | with_reducible assumption | (with_reducible exact Keeps.refl _ _) | (with_reducible refine Keeps.drew ?_) | (with_reducible refine Keeps.drewN ?_ _) | (with_reducible refine Keeps.alloc ?_ _) | (with_reducible refine Keeps.trans ?_ (HCv.out _)))); done) | (with_reducible refine (HOw.out.on ?_).cell 0 _ rfl; (repeat (first | with_reducible assumption | (with_reducible exact Keeps.refl _ _) | (with_reducible refine Keeps.drew ?_) | (with_reducible refine Keeps.drewN ?_ _) | (with_reducible refine Keeps.alloc ?_ _) | (with_reducible refine Keeps.trans ?_ (HCv.out _)))); done) | (with_reducible refine (HOw.out.on ?_).cell 1 _ rfl; (repeat (first | with_reducible assumption | (with_reducible exact Keeps.refl _ _) | (with_reducible refine Keeps.drew ?_) | (with_reducible refine Keeps.drewN ?_ _) | (with_reducible refine Keeps.alloc ?_ _) | (with_reducible refine Keeps.trans ?_ (HCv.out _)))); done) | (with_reducible refine (HOw.out.on ?_).cell 2 _ rfl; (repeat (first | with_reducible assumption | (with_reducible exact Keeps.refl _ _) | (with_reducible refine Keeps.drew ?_) | (with_reducible refine Keeps.drewN ?_ _) | (with_reducible refine Keeps.alloc ?_ _) | (with_reducible refine Keeps.trans ?_ (HCv.out _)))); done) | (with_reducible refine (Keeps.cell (F := NoB) (p := ⟨G1, 0, none⟩) ?_ gk1 (fun h => h)).trans HGw1.out; (repeat (first | with_reducible assumption | (with_reducible exact Keeps.refl _ _) | (with_reducible refine Keeps.drew ?_) | (with_reducible refine Keeps.drewN ?_ _) | (with_reducible refine Keeps.alloc ?_ _) | (with_reducible refine Keeps.trans ?_ (HCv.out _)))); done) | (with_reducible refine (Keeps.cell (F := NoB) (p := ⟨G2, 0, none⟩) ?_ gk2 (fun h => h)).trans HGw2.out; (repeat (first | with_reducible assumption | (with_reducible exact Keeps.refl _ _) | (with_reducible refine Keeps.drew ?_) | (with_reducible refine Keeps.drewN ?_ _) | (with_reducible refine Keeps.alloc ?_ _) | (with_reducible refine Keeps.trans ?_ (HCv.out _)))); done) | ((repeat (first | with_reducible assumption | (with_reducible exact Keeps.refl _ _) | (with_reducible refine Keeps.drew ?_) | (with_reducible refine Keeps.drewN ?_ _) | (with_reducible refine Keeps.alloc ?_ _) | (with_reducible refine Keeps.trans ?_ (HCv.out _)))); done))
    clear HKK
    clear K
    try simp only [Act.put, List.setIfInBounds_toArray, List.set_cons_zero, List.set_cons_succ]
    refine wpAnyH_take (i := 30) (v := ?_) (by simp only [List.getElem?_toArray, List.getElem?_cons_succ, List.getElem?_cons_zero]; rfl) (by kernel_rfl) (by kernel_rfl) (by kernel_rfl) (by intro _ _ _ h; exact h) (Or.inl ⟨by rfl, ?_⟩) (by assumption) ?_
    rotate_left
    ·((intro w hSw; (try dsimp only at hSw); go_simp); (try with_reducible rfl))
    try simp only [Act.put, List.setIfInBounds_toArray, List.set_cons_zero, List.set_cons_succ]
    refine wpAnyH_take (i := 31) (v := ?_) (by simp only [List.getElem?_toArray, List.getElem?_cons_succ, List.getElem?_cons_zero]; rfl) (by kernel_rfl) (by kernel_rfl) (by kernel_rfl) (by intro _ _ _ h; exact h) (Or.inl ⟨by rfl, ?_⟩) (by assumption) ?_
    rotate_left
    ·((intro w hSw; (try dsimp only at hSw); go_simp); (try with_reducible rfl))
    try simp only [Act.put, List.setIfInBounds_toArray, List.set_cons_zero, List.set_cons_succ]
    refine wpAnyH_take (i := 32) (v := ?_) (by simp only [List.getElem?_toArray, List.getElem?_cons_succ, List.getElem?_cons_zero]; rfl) (by kernel_rfl) (by kernel_rfl) (by kernel_rfl) (by intro _ _ _ h; exact h) (Or.inl ⟨by rfl, ?_⟩) (by assumption) ?_
    rotate_left
    ·((intro w hSw; (try dsimp only at hSw); go_simp); (try with_reducible rfl))
    try simp only [Act.put, List.setIfInBounds_toArray, List.set_cons_zero, List.set_cons_succ]
    refine wpAnyH_take (i := 33) (v := ?_) (by simp only [List.getElem?_toArray, List.getElem?_cons_succ, List.getElem?_cons_zero]; rfl) (by kernel_rfl) (by kernel_rfl) (by kernel_rfl) (by intro _ _ _ h; exact h) (Or.inl ⟨by rfl, ?_⟩) (by assumption) ?_
    rotate_left
    ·((intro w hSw; (try dsimp only at hSw); go_simp); (try with_reducible rfl))
    try simp only [Act.put, List.setIfInBounds_toArray, List.set_cons_zero, List.set_cons_succ]
    refine wpAnyH_done (by kernel_rfl) ?_ _
    go_wp2_with fail
    go_ret
    refine ⟨rfl, HKw.out.trans ?_⟩
    (repeat (first | with_reducible assumption | (with_reducible exact Keeps.refl _ _) | (with_reducible refine Keeps.drew ?_) | (with_reducible refine Keeps.drewN ?_ _) | (with_reducible refine Keeps.alloc ?_ _) | (with_reducible refine Keeps.trans ?_ (HCv.out _))))
    -- end of region 18
theorem as22_of {W : World} (h : laidMet Tryz.prog [("strings.asciiSpace", Rows.laid_strings_asciiSpace)] W) : As22 W := by
 rw [show Rows.laid_strings_asciiSpace = Lib.tabData .u8 Lib.asciiSpaceTab by kernel_rfl] at h
 have ht := Lib.tabIs_of_head (show Tryz.prog.globalNamed "strings.asciiSpace" = some 1 by kernel_rfl) (show (Tryz.prog.globals[1]?).map (·.type) = some 118 by kernel_rfl)
  (show Tryz.prog.underlying 118 = some (.array 256 5) by kernel_rfl) (show Tryz.prog.underlying 5 = some (.int .u8) by kernel_rfl) (by kernel_rfl) (by kernel_rfl) h
 intro c hc
 rw [ht.cell (show Tryz.prog.globalNamed "strings.asciiSpace" = some 1 by kernel_rfl) c (by rw [Lib.asciiSpaceTab_length]; exact hc), Lib.asciiSpaceTab_at c hc]
end Go.Proofs.YtkdfgkbojbdelaaGreatDoor
namespace Go.Proofs.YtkdfgkbojbdelaaGreatDoor
open Go.RowKit Go.ChangeShapes Go.WideShapes Go.ChangeAt
theorem list_of {α : Type} {Q : Nat -> α -> Prop} : ∀ n, (∀ i, i < n -> ∃ x, Q i x) -> ∃ l : List α, l.length = n ∧ ∀ i x, l[i]? = some x -> Q i x
 | 0, _ => ⟨[], rfl, fun i x h => by simp at h⟩
 | n + 1, h => by
   obtain ⟨l, hl, hq⟩ := list_of n (fun i hi => h i (by omega))
   obtain ⟨x, hx⟩ := h n (by omega)
   refine ⟨l ++ [x], by simp [hl], fun i y hy => ?_⟩
   by_cases hi : i < n
   ·rw [List.getElem?_append_left (by omega)] at hy; exact hq i y hy
   ·rw [List.getElem?_append_right (by omega)] at hy
    have hi0 : i - l.length = 0 := by
     have := (List.getElem?_eq_some_iff.1 hy).1
     simp at this; omega
    rw [hi0] at hy
    have : i = n := by omega
    subst this
    simp at hy; subst hy; exact hx
section
variable {H : Type} {enc : TypeId × Value -> H} {P : Program} {W : World}
theorem open_sl {α : Type} (E : Enc α) {good : α -> Prop} {t e : TypeId} {p : Option Addr} {len cap : Nat} {d : DataW H} {ps : List MemPlace} (ht : P.underlying t = some (.slice e)) (hC : P.cellsOf e = E.k)
 (h : DataW.Trod enc P W 0 (fun _ => true) true t (.slice p len cap) d ps)
 (hdec : ∀ (n : Nat) (cs : List Value) (y : DataW H × List MemPlace), cs.length = E.k -> DataW.trod enc P W 0 (fun _ => true) true n e cs = some y -> ∃ x, E.enc x = cs ∧ good x) :
 ∃ l : List α, len = l.length ∧ SlAt E (fun g => g < W.heap.size) W p cap l ∧ ∀ x ∈ l, good x := by
 obtain ⟨fuel, hf⟩ := h
 rcases Go.Deep.open_slice ht hf with ⟨hcs, _⟩ | ⟨a, len1, cap1, m, n, D, Pl, hcs, _, hl, hm, hmm, _, hi⟩
 ·simp [Value.cells] at hcs
  obtain ⟨e1, e2, e3⟩ := hcs
  subst e1 e2 e3
  exact ⟨[], rfl, ⟨Nat.le_refl _, Nat.zero_le _, fun _ => rfl, (fun h => by omega), (fun h => by simp at h)⟩, by simp⟩
 ·simp [Value.cells] at hcs
  obtain ⟨e1, e2, e3⟩ := hcs
  subst e1 e2 e3
  simp only [if_true] at hmm
  have hmm1 := hmm.symm
  subst hmm1
  clear hmm
  obtain ⟨l, hll, hq⟩ := list_of (Q := fun i x => (∀ j, j < E.k -> W.cell? (a.add (i * E.k + j)) = (E.enc x)[j]?) ∧ good x) cap (fun i him => by
   obtain ⟨cs', hc, ht'⟩ := hi i him
   rw [hC] at hc
   obtain ⟨_, hcl, hat⟩ := World.cells?_some hc
   obtain ⟨x, hx, hg⟩ := hdec n cs' _ hcl ht'
   refine ⟨x, fun j hj => ?_, hg⟩
   rw [hx, <- hat j hj, Go.Deep.add_add])
  have hspot : 0 < cap -> a.spot = none := fun h0 => by
   obtain ⟨x, hx⟩ : ∃ x, l[0]? = some x := ⟨_, List.getElem?_eq_getElem (by omega)⟩
   have h1 := (hq 0 x hx).1 0 E.pos
   obtain ⟨u, hu⟩ : ∃ u, (E.enc x)[0]? = some u := ⟨_, List.getElem?_eq_getElem (by rw [E.len]; exact E.pos)⟩
   rw [hu] at h1
   simpa [Addr.add] using World.cell?_spot h1
  refine ⟨l.take len, by simp; omega, ⟨by simp; omega, hm, (fun h => by cases h), (fun h0 a' ha => by cases ha; exact hspot h0), fun h0 => ?_⟩, fun x hx => ?_⟩
  ·simp at h0
   have hs := hspot (by omega)
   obtain ⟨b, off, sp⟩ := a
   subst hs
   refine ⟨b, off, rfl, ?_, ?_, fun j hj => ?_⟩
   rotate_left 2
   ·have hk := E.pos
    rw [List.length_take, Nat.min_eq_left (by omega)] at hj
    have hd : j = j / E.k * E.k + j % E.k := by rw [Nat.mul_comm]; exact (Nat.div_add_mod j E.k).symm
    have hm' := Nat.mod_lt j hk
    have hq' : j / E.k < len := Nat.div_lt_of_lt_mul (by rw [Nat.mul_comm]; exact hj)
    obtain ⟨x, hx⟩ : ∃ x, l[j / E.k]? = some x := ⟨_, List.getElem?_eq_getElem (by omega)⟩
    have h1 := (hq _ x hx).1 _ hm'
    rw [add_lit] at h1
    rw [hd, h1, E.flat_get _ _ _ hm', List.getElem?_take, if_pos hq', hx]; rfl
   all_goals
    obtain ⟨x, hx⟩ : ∃ x, l[0]? = some x := ⟨_, List.getElem?_eq_getElem (by omega)⟩
    have h1 := (hq 0 x hx).1 0 E.pos
    obtain ⟨u, hu⟩ : ∃ u, (E.enc x)[0]? = some u := ⟨_, List.getElem?_eq_getElem (by rw [E.len]; exact E.pos)⟩
    rw [hu, add_lit] at h1
    exact lt_of_cell h1
  ·obtain ⟨i, hi⟩ := List.mem_iff_getElem?.1 (List.mem_of_mem_take hx)
   exact (hq i x hi).2
theorem open_strs_sl {t e : TypeId} {p : Option Addr} {len cap : Nat} {d : DataW H} {ps : List MemPlace} (ht : P.underlying t = some (.slice e)) (he : P.underlying e = some .string) (hC : P.cellsOf e = 1)
 (h : DataW.Trod enc P W 0 (fun _ => true) true t (.slice p len cap) d ps) :
 ∃ l : List ByteArray, len = l.length ∧ SlAt encStr (fun g => g < W.heap.size) W p cap l ∧ ∀ s ∈ l, s.size <= maxLen := by
 refine open_sl encStr ht hC h fun n cs y hl hy => ?_
 match cs, hl with
 | [v], _ =>
   obtain ⟨s, hs, _, hz⟩ := DataW.trod_string he hy
   exact ⟨s, hs.symm, hz⟩
end
end Go.Proofs.YtkdfgkbojbdelaaGreatDoor
