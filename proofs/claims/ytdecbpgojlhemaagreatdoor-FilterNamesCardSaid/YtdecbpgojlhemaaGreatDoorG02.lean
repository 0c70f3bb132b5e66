/-
  Itoa of 12.
-/
import Derived.Test.YtdecbpgojlhemaaGreatDoorG01
import Derived.Handy
import Derived.Lib.SlBytesConst
import Derived.Laws.EntriesVeiled
import Derived.Test.YtdecbpgojlhemaaGreatDoorRows
import Derived.LaidSub
import Derived.OpenShut
import Derived.Lib.LaidTab
import Derived.ProofKit
import Derived.ShutString
import Derived.ChangeOld
import Derived.Deep.Slices
import Derived.Deep.Fields

set_option linter.unusedSimpArgs false
set_option linter.unusedVariables false
set_option maxRecDepth 100000
set_option maxHeartbeats 4000000
namespace Go.Proofs.YtdecbpgojlhemaaGreatDoor
open Go Go.RowKit
theorem itoa_12 (w : World) : Calls Tryz.prog 32 #[.int .i64 12] w fun e w' => e = .returned (.string ⟨#[49, 50]⟩) ∧ w = w' := by
 have h3 : Hid (Calls Tryz.prog 105 #[.int .i64 12] w fun e w' => e = .returned (.string ⟨#[49, 50]⟩) ∧ w = w') := by
  show Calls _ _ _ _ _
  go_enter Tryz.func105, Tryz.ntmps105
  go_wp2
  go_ret
  exact ⟨rfl, rfl⟩
 have h2 : Hid (Calls Tryz.prog 84 #[.int .i64 12, .int .i64 10] w fun e w' => e = .returned (.string ⟨#[49, 50]⟩) ∧ w = w') := by
  show Calls _ _ _ _ _
  go_enter Tryz.func84, Tryz.ntmps84
  go_wp2_with (go_at_call 105; go_loud (refine h3.out.mono ?_); rintro e w1 ⟨rfl, rfl⟩)
  go_ret
  exact ⟨rfl, rfl⟩
 have h1 : Hid (Calls Tryz.prog 53 #[.int .i64 12] w fun e w' => e = .returned (.string ⟨#[49, 50]⟩) ∧ w = w') := by
  show Calls _ _ _ _ _
  go_enter Tryz.func53, Tryz.ntmps53
  go_wp2_with (go_at_call 84; go_loud (refine h2.out.mono ?_); rintro e w1 ⟨rfl, rfl⟩)
  go_ret
  exact ⟨rfl, rfl⟩
 go_enter Tryz.func32, Tryz.ntmps32
 go_wp2_with (go_at_call 53; go_loud (refine h1.out.mono ?_); rintro e w1 ⟨rfl, rfl⟩)
 go_ret
 exact ⟨rfl, rfl⟩
theorem isIn_none {l : List ByteArray} {s x : ByteArray} (h : isIn l s = false) (hx : x ∈ l) : ¬ s = x := by
 intro e
 unfold isIn at h
 rw [List.any_eq_false] at h
 exact h x hx (by rw [decide_eq_true_eq]; exact e.symm)
theorem results_cell_oneF {fn : Func} {p : Tmp} {ty : TypeId} (h : fn.results = #[.cell p ty]) (tmps : Array Value) (P : Program) (w : World) :
 (results fn tmps).run P w = ((asAddr (tmps.getD p undef)).run P w).andThen fun a w₁ => (loadVar ty a).run P w₁ := by
 simp only [results, h]
 simp [Sem.run_bind, Result.andThen]
theorem bad_12 (nm : ByteArray) (w : World) (hz : nm.size <= 1000) :
 Calls Tryz.prog 20 #[.string nm, .int .i64 12, .int .i64 127] w fun e w' => e = .returned (.agg #[.string ⟨#[]⟩, .string (nm ++ ⟨#[58, 32, 49, 50, 10]⟩), .int .i64 127]) ∧ Keeps NoB w w' := by
 have HI := Lib.hid (fun w1 : World => itoa_12 w1)
 have HE : Hid (nm ++ ⟨#[58, 32, 49, 50, 10]⟩ = nm ++ ⟨#[58, 32]⟩ ++ ⟨#[49, 50]⟩ ++ ⟨#[10]⟩) := Lib.hid (ba_eq (by simp))
 rw [HE.out]
 go_enter Tryz.func20, Tryz.ntmps20
 go_wp2_with (go_at_call 32; go_loud (refine (HI.out _).mono ?_); rintro e w1 ⟨rfl, rfl⟩)
 refine bodyPost_ret (v := .agg #[.string ⟨#[]⟩, .string (nm ++ ⟨#[58, 32]⟩ ++ ⟨#[49, 50]⟩ ++ ⟨#[10]⟩), .int .i64 127]) ?_ rfl ?_
 ·rw [results_cell_oneF rfl]; go_simp
 exact ⟨rfl, (Keeps.refl _ _).alloc _⟩
theorem frun_none (nm : ByteArray) (hno : isIn fNm nm = false) (hz : nm.size <= 1000) (p : Option Addr) (n c : Nat) (bt' : TypeId) (bv : Value) (w : World) :
 Calls Tryz.prog 6 #[.string nm, .slice p n c, .iface bt' bv] w fun e w' => e = .returned (.agg #[.string ⟨#[]⟩, .string (nm ++ ⟨#[58, 32, 49, 50, 10]⟩), .int .i64 127]) ∧ Keeps NoB w w' := by
 have q0 : (nm.toList == [98, 97, 115, 101, 110, 97, 109, 101]) = false := by
  have := toList_ne (isIn_none hno (x := ⟨#[98, 97, 115, 101, 110, 97, 109, 101]⟩) (List.mem_of_getElem? (i := 0) rfl))
  rw [show (⟨#[98, 97, 115, 101, 110, 97, 109, 101]⟩ : ByteArray).toList = [98, 97, 115, 101, 110, 97, 109, 101] by rw [Lib.toList_data]] at this
  exact this
 have q1 : (nm.toList == [99, 97, 116]) = false := by
  have := toList_ne (isIn_none hno (x := ⟨#[99, 97, 116]⟩) (List.mem_of_getElem? (i := 1) rfl))
  rw [show (⟨#[99, 97, 116]⟩ : ByteArray).toList = [99, 97, 116] by rw [Lib.toList_data]] at this
  exact this
 have q2 : (nm.toList == [99, 107, 115, 117, 109]) = false := by
  have := toList_ne (isIn_none hno (x := ⟨#[99, 107, 115, 117, 109]⟩) (List.mem_of_getElem? (i := 2) rfl))
  rw [show (⟨#[99, 107, 115, 117, 109]⟩ : ByteArray).toList = [99, 107, 115, 117, 109] by rw [Lib.toList_data]] at this
  exact this
 have q3 : (nm.toList == [99, 109, 112]) = false := by
  have := toList_ne (isIn_none hno (x := ⟨#[99, 109, 112]⟩) (List.mem_of_getElem? (i := 3) rfl))
  rw [show (⟨#[99, 109, 112]⟩ : ByteArray).toList = [99, 109, 112] by rw [Lib.toList_data]] at this
  exact this
 have q4 : (nm.toList == [100, 105, 114, 110, 97, 109, 101]) = false := by
  have := toList_ne (isIn_none hno (x := ⟨#[100, 105, 114, 110, 97, 109, 101]⟩) (List.mem_of_getElem? (i := 4) rfl))
  rw [show (⟨#[100, 105, 114, 110, 97, 109, 101]⟩ : ByteArray).toList = [100, 105, 114, 110, 97, 109, 101] by rw [Lib.toList_data]] at this
  exact this
 have q5 : (nm.toList == [101, 99, 104, 111]) = false := by
  have := toList_ne (isIn_none hno (x := ⟨#[101, 99, 104, 111]⟩) (List.mem_of_getElem? (i := 5) rfl))
  rw [show (⟨#[101, 99, 104, 111]⟩ : ByteArray).toList = [101, 99, 104, 111] by rw [Lib.toList_data]] at this
  exact this
 have q6 : (nm.toList == [101, 120, 112, 114]) = false := by
  have := toList_ne (isIn_none hno (x := ⟨#[101, 120, 112, 114]⟩) (List.mem_of_getElem? (i := 6) rfl))
  rw [show (⟨#[101, 120, 112, 114]⟩ : ByteArray).toList = [101, 120, 112, 114] by rw [Lib.toList_data]] at this
  exact this
 have q7 : (nm.toList == [102, 97, 108, 115, 101]) = false := by
  have := toList_ne (isIn_none hno (x := ⟨#[102, 97, 108, 115, 101]⟩) (List.mem_of_getElem? (i := 7) rfl))
  rw [show (⟨#[102, 97, 108, 115, 101]⟩ : ByteArray).toList = [102, 97, 108, 115, 101] by rw [Lib.toList_data]] at this
  exact this
 have q8 : (nm.toList == [104, 101, 97, 100]) = false := by
  have := toList_ne (isIn_none hno (x := ⟨#[104, 101, 97, 100]⟩) (List.mem_of_getElem? (i := 8) rfl))
  rw [show (⟨#[104, 101, 97, 100]⟩ : ByteArray).toList = [104, 101, 97, 100] by rw [Lib.toList_data]] at this
  exact this
 have q9 : (nm.toList == [112, 114, 105, 110, 116, 102]) = false := by
  have := toList_ne (isIn_none hno (x := ⟨#[112, 114, 105, 110, 116, 102]⟩) (List.mem_of_getElem? (i := 9) rfl))
  rw [show (⟨#[112, 114, 105, 110, 116, 102]⟩ : ByteArray).toList = [112, 114, 105, 110, 116, 102] by rw [Lib.toList_data]] at this
  exact this
 have q10 : (nm.toList == [116, 97, 105, 108]) = false := by
  have := toList_ne (isIn_none hno (x := ⟨#[116, 97, 105, 108]⟩) (List.mem_of_getElem? (i := 10) rfl))
  rw [show (⟨#[116, 97, 105, 108]⟩ : ByteArray).toList = [116, 97, 105, 108] by rw [Lib.toList_data]] at this
  exact this
 have q11 : (nm.toList == [116, 114, 117, 101]) = false := by
  have := toList_ne (isIn_none hno (x := ⟨#[116, 114, 117, 101]⟩) (List.mem_of_getElem? (i := 11) rfl))
  rw [show (⟨#[116, 114, 117, 101]⟩ : ByteArray).toList = [116, 114, 117, 101] by rw [Lib.toList_data]] at this
  exact this
 have q12 : (nm.toList == [117, 117, 101, 110, 99, 111, 100, 101]) = false := by
  have := toList_ne (isIn_none hno (x := ⟨#[117, 117, 101, 110, 99, 111, 100, 101]⟩) (List.mem_of_getElem? (i := 12) rfl))
  rw [show (⟨#[117, 117, 101, 110, 99, 111, 100, 101]⟩ : ByteArray).toList = [117, 117, 101, 110, 99, 111, 100, 101] by rw [Lib.toList_data]] at this
  exact this
 have q13 : (nm.toList == [119, 99]) = false := by
  have := toList_ne (isIn_none hno (x := ⟨#[119, 99]⟩) (List.mem_of_getElem? (i := 13) rfl))
  rw [show (⟨#[119, 99]⟩ : ByteArray).toList = [119, 99] by rw [Lib.toList_data]] at this
  exact this
 have HB := Lib.hid (fun w1 : World => bad_12 nm w1 hz)
 clear hno
 go_enter Tryz.func6, Tryz.ntmps6
 go_wp2_with (go_at_call 20; go_loud (refine (HB.out _).mono ?_); rintro e w1 ⟨rfl, hk1⟩; have hb := Bk.new hk1; have r0 := hb.cell 0 _ rfl; have r1 := hb.cell 1 _ rfl; have r2 := hb.cell 2 _ rfl; have rf := hb.fz; have rl := hb.lt)
 refine bodyPost_ret (v := .agg #[.string ⟨#[]⟩, .string (nm ++ ⟨#[58, 32, 49, 50, 10]⟩), .int .i64 127]) ?_ rfl ?_
 ·rw [results_cell_oneF rfl]; go_simp
 refine ⟨rfl, ?_⟩
 have k := (((Keeps.refl NoB w).alloc (.cells #[.string ⟨#[]⟩, .string ⟨#[]⟩, .int .i64 0] 31)).trans hk1)
 exact ((k.step (kset _ ⟨w.heap.size, 0, none⟩ _) (fun g hg => .inr (Nat.le_of_eq hg.symm))).step (kset _ ⟨w.heap.size, 1, none⟩ _) (fun g hg => .inr (Nat.le_of_eq hg.symm))).step (kset _ ⟨w.heap.size, 2, none⟩ _) (fun g hg => .inr (Nat.le_of_eq hg.symm))
theorem plain_asc (s : ByteArray) (w : World) (h1 : 1 <= s.size) (hs : s.size <= 1000000) (ha : ∀ (j : Nat) b, s.data.toList[j]? = some b -> b.toNat < 128) :
 Calls Tryz.prog 58 #[.string s] w fun e w' => e = .returned (.string s) ∧ Keeps NoB w w' := by
 have hconv := fun wx => Lib.run_convert_string_bytes (P := Tryz.prog) wx 9 28 5 s Tryz.underlying9 Tryz.underlying28 Tryz.underlying5
 have hl : s.data.toList.length = s.size := len_data s
 obtain ⟨hsl, hkc⟩ := conv_sl w s (by unfold maxLen; omega)
 have HL := Lib.hid hsl
 have HK := Lib.hid hkc
 have HA := Lib.hid ha
 have hcp := hsl.cap
 have hmx := hsl.max
 unfold maxLen at hmx
 rw [hl] at hcp
 have hst := sl_str hsl (by rw [hl]; omega)
 rw [hl] at hst
 have HS := Lib.hid hst
 clear hsl hkc ha hst
 go_enter Tryz.func58, Tryz.ntmps58
 go_upto_region 3 with fail
 clear hconv
 generalize grownCap w s.size 0 5 = cp at *
 generalize Lib.bytesWorld w 5 s = w2 at *
 go_loop [10] (fun i => ∃ k : Nat, k <= s.size ∧ i = .int .i64 k) (fun i => s.size + 1 - (intOf i).toNat)
 case atStart => exact ⟨0, Nat.zero_le _, rfl⟩
 case round =>
  obtain ⟨k, hk, rfl⟩ := hrel
  by_cases hlt : k < s.size
  ·obtain ⟨b, hb⟩ : ∃ b, s.data.toList[k]? = some b := ⟨_, List.getElem?_eq_getElem (by rw [hl]; exact hlt)⟩
   have t0 : w2.cell? ⟨w.heap.size, k, none⟩ = some (.int .u8 (b.toNat : Int)) := by
    obtain ⟨g, off, e, _, _, hcc⟩ := HL.out.at hb
    cases e
    have := hcc 0 _ rfl
    simpa [encU8] using this
   have hb8 : (b.toNat : Int) < 128 := by have := HA.out k b hb; omega
   clear hb
   go_wp2
   go_round
   case rel => exact ⟨k + 1, by omega, by go_num⟩
   case measure => simp [intOf]; omega
  ·obtain rfl : k = s.size := by omega
   have hst := HS.out
   go_wp2
   go_ret
   exact ⟨rfl, HK.out⟩
theorem words_asc (s : ByteArray) (w : World) (h1 : 1 <= s.size) (hs : s.size <= 1000000) (ha : ∀ (j : Nat) b, s.data.toList[j]? = some b -> b.toNat < 128) (ht : As22 w) :
 Calls Tryz.prog 35 #[.string s] w fun e w' => e = .returned (.int .i64 ((Lib.fields s.data.toList).length : Int)) ∧ Keeps NoB w w' := by
 have HP := Lib.hid (plain_asc s w h1 hs ha)
 have HF := Lib.hid (fun (w1 : World) (k : Keeps NoB w w1) => fields_asc s w1 hs ha (ht.on k))
 obtain ⟨n, hn⟩ : ∃ n, (Lib.fields s.data.toList).length = n := ⟨_, rfl⟩
 rw [hn] at HF ⊢
 clear ha ht hn
 go_enter Tryz.func35, Tryz.ntmps35
 go_wp2_with (first | (go_at_call 58; go_loud (refine HP.out.mono ?_); rintro e w1 ⟨rfl, hk1⟩) | (go_at_call 57; go_loud (refine (HF.out _ hk1).mono ?_); rintro e w2 ⟨rfl, hk2⟩))
 go_ret
 exact ⟨rfl, hk1.trans hk2⟩
theorem results_cell_tmpF {fn : Func} {p q : Tmp} {ty : TypeId} (h : fn.results = #[.cell p ty, .tmp q]) (tmps : Array Value) (P : Program) (w : World) :
 (results fn tmps).run P w = ((asAddr (tmps.getD p undef)).run P w).andThen fun a w₁ => ((loadVar ty a).run P w₁).andThen fun v w₂ => .ok (.tuple #[v, tmps.getD q undef]) w₂ := by
 simp only [results, h]
 simp [Sem.run_bind, Result.andThen]
abbrev xyB : ByteArray := ⟨#[120, 10, 121, 10]⟩
def Ex22 (w : World) (L : Nat) : Prop := Bk w L [.string ⟨#[97]⟩, .string xyB, .int .i64 0]
theorem find_ex (w : World) (L : Nat) (h : Ex22 w L) : Calls Tryz.prog 178 #[.agg #[.string ⟨#[]⟩, .int .i64 0, .slice (some ⟨L, 0, none⟩) 1 1], .string ⟨#[97]⟩] w fun e w' => e = .returned (.tuple #[.agg #[.string ⟨#[97]⟩, .string xyB, .int .i64 0], .int .i64 0]) ∧ Keeps NoB w w' := by
 have c0 := Bk.cell h 0 _ rfl
 have c1 := Bk.cell h 1 _ rfl
 have c2 := Bk.cell h 2 _ rfl
 have cl := Bk.lt h
 clear h
 go_enter Tryz.func178, Tryz.ntmps178
 go_wp2
 go_loop [6] (fun v => v = .int .i64 0) (fun _ => 0)
 case atStart => rfl
 case round =>
  subst hrel
  go_wp2
  (try simp only [Exit.inBlock, Exit.then])
  refine bodyPost_ret (v := .tuple #[.agg #[.string ⟨#[97]⟩, .string xyB, .int .i64 0], .int .i64 0]) ?_ rfl ?_
  ·rw [results_cell_tmpF rfl]; go_simp
  exact ⟨rfl, ((Keeps.refl _ _).alloc _).alloc _⟩
theorem file_ex (w : World) (L : Nat) (h : Ex22 w L) : Calls Tryz.prog 175 #[.agg #[.string ⟨#[]⟩, .int .i64 0, .slice (some ⟨L, 0, none⟩) 1 1], .string ⟨#[97]⟩] w fun e w' => e = .returned (.tuple #[.string xyB, .int .i64 0]) ∧ Keeps NoB w w' := by
 have HF := Lib.hid (fun (w1 : World) (k : Keeps NoB w w1) => find_ex w1 L (Bk.on h k))
 have HK := Lib.hid ((Keeps.refl NoB w).alloc (.cells #[.string ⟨#[]⟩, .int .i64 0, .slice (some ⟨L, 0, none⟩) 1 1] 27))
 clear h
 go_enter Tryz.func175, Tryz.ntmps175
 go_wp2_with (go_at_call 178; go_loud (refine (HF.out _ HK.out).mono ?_); rintro e w1 ⟨rfl, hk1⟩)
 go_ret2
 exact ⟨rfl, (HK.out.trans hk1).alloc _⟩
theorem read_ex (w : World) (L : Nat) (h : Ex22 w L) : Calls Tryz.prog 28 #[.string ⟨#[97]⟩, .iface 27 (.agg #[.string ⟨#[]⟩, .int .i64 0, .slice (some ⟨L, 0, none⟩) 1 1])] w fun e w' => e = .returned (.tuple #[.string xyB, .int .i64 0]) ∧ Keeps NoB w w' := by
 have HF := Lib.hid (file_ex w L h)
 clear h
 go_enter Tryz.func28, Tryz.ntmps28
 go_wp2_with (go_at_call 175; go_loud (refine HF.out.mono ?_); rintro e w1 ⟨rfl, hk1⟩)
 go_ret2
 exact ⟨rfl, hk1⟩
theorem line_ex (w : World) (K : Nat) (h : Bk w K [.string ⟨#[108]⟩]) : Calls Tryz.prog 31 #[.agg #[.int .i64 2, .int .i64 2, .int .i64 4], .string ⟨#[97]⟩, .pointer (some ⟨K, 0, none⟩)] w fun e w' => e = .returned (.string ⟨#[50, 32, 97, 10]⟩) ∧ Keeps NoB w w' := by
 have c0 := h.cell 0 _ rfl
 have cl := h.lt
 have hconv := fun wx => Lib.run_convert_string_bytes (P := Tryz.prog) wx 9 28 5 ⟨#[108]⟩ Tryz.underlying9 Tryz.underlying28 Tryz.underlying5
 obtain ⟨hsl, hkc⟩ := conv_sl (w.alloc (.cells #[.int .i64 2, .int .i64 2, .int .i64 4] 64)) ⟨#[108]⟩ (by decide)
 have hb := Bk.new hkc
 have d0 := hb.cell 0 _ rfl
 have d1 := hb.cell 1 _ rfl
 have d2 := hb.cell 2 _ rfl
 have dl := hb.lt
 have hz : (w.alloc (.cells #[.int .i64 2, .int .i64 2, .int .i64 4] 64)).heap.size = w.heap.size + 1 := by simp
 have t0 : (Lib.bytesWorld (w.alloc (.cells #[.int .i64 2, .int .i64 2, .int .i64 4] 64)) 5 ⟨#[108]⟩).cell? ⟨w.heap.size + 1, 0, none⟩ = some (.int .u8 108) := by
  obtain ⟨g, off, e, _, _, hcc⟩ := hsl.at (i := 0) (x := 108) rfl
  cases e
  have := hcc 0 _ rfl
  rw [hz] at this
  simpa [encU8] using this
 have hcp := hsl.cap
 have hmx := hsl.max
 unfold maxLen at hmx
 have HK := Lib.hid (((Keeps.refl NoB w).alloc (.cells #[.int .i64 2, .int .i64 2, .int .i64 4] 64)).trans hkc)
 have HIb := Lib.hid (fun wx => ib_any ⟨#[108, 119, 99]⟩ 108 wx)
 rw [show bIdx (⟨#[108, 119, 99]⟩ : ByteArray) ((108 : Int)).toNat.toUInt8 = 0 by decide] at HIb
 have HIt : Hid (∀ w1 : World, Calls Tryz.prog 32 #[.int .i64 2] w1 fun e w' => e = .returned (.string ⟨#[50]⟩) ∧ w1 = w') := Lib.hid (fun w1 : World => itoa_digit 2 (.inr (.inr rfl)) w1)
 clear h hsl hkc hb hz
 go_enter Tryz.func31, Tryz.ntmps31
 go_upto_region 3 with fail
 clear hconv c0 cl
 generalize Lib.bytesWorld (w.alloc (.cells #[.int .i64 2, .int .i64 2, .int .i64 4] 64)) 5 ⟨#[108]⟩ = w2 at *
 go_loop [6, 12] (fun o i => (o = .string ⟨#[]⟩ ∧ i = .int .i64 0) ∨ (o = .string ⟨#[50]⟩ ∧ i = .int .i64 1)) (fun _ i => 2 - (intOf i).toNat)
 case atStart => exact .inl ⟨rfl, rfl⟩
 case round =>
  rcases hrel with ⟨rfl, rfl⟩ | ⟨rfl, rfl⟩
  ·go_wp2_with (first | (go_at_call 30; go_loud (refine (HIb.out _).mono ?_); rintro e w3 ⟨rfl, rfl⟩) | (go_at_call 32; go_loud (refine (HIt.out _).mono ?_); rintro e w4 ⟨rfl, rfl⟩))
   go_round
   case rel => exact .inr ⟨congrArg Value.string (by decide), by go_num⟩
   case measure => simp [intOf]
  ·go_wp2
   go_ret
   exact ⟨congrArg (fun s => Ending.returned (Value.string s)) (by decide), HK.out⟩
def accX : Nat -> List Value
 | 0 => [.int .i64 0, .int .i64 0, .int .i64 0]
 | 1 => [.int .i64 2, .int .i64 0, .int .i64 0]
 | 2 => [.int .i64 2, .int .i64 2, .int .i64 0]
 | _ => [.int .i64 2, .int .i64 2, .int .i64 4]
def lineF (K : Nat) : Value := .func (.func 31) #[] #[.pointer (some ⟨K, 0, none⟩)]
theorem tell_ex (w : World) (A T Lb K : Nat) (hA : Bk w A (accX 0)) (hT : Bk w T [.int .i64 0]) (hL : Bk w Lb [lineF K]) (hK : Bk w K [.string ⟨#[108]⟩]) (ht : As22 w) (n1 : T ≠ A) (n2 : Lb ≠ A) (n3 : K ≠ A) (n4 : Lb ≠ T) (n5 : K ≠ T) :
 Calls Tryz.prog 33 #[.string xyB, .string ⟨#[97]⟩, .pointer (some ⟨A, 0, none⟩), .pointer (some ⟨T, 0, none⟩), .pointer (some ⟨Lb, 0, none⟩)] w fun e w' => e = .returned (.string ⟨#[50, 32, 97, 10]⟩) ∧ Keeps (fun g => g = A ∨ g = T) w w' ∧ Bk w' T [.int .i64 1] := by
 have HC := Lib.hid (fun w1 : World => count_nl xyB w1)
 rw [show Lib.countByte xyB.data.toList 10 = 2 by decide] at HC
 have HW := Lib.hid (fun w1 (k : Keeps NoB w w1) => words_asc xyB w1 (by decide) (by decide) (by
  intro j b hb
  have : ∀ b ∈ xyB.data.toList, b.toNat < 128 := by decide
  exact this b (List.mem_of_getElem? hb)) (ht.on k))
 rw [show (Lib.fields xyB.data.toList).length = 2 by decide] at HW
 have HA := Lib.hid hA
 have HT := Lib.hid hT
 have HL := Lib.hid hL
 have HK := Lib.hid hK
 have N1 := Lib.hid n1
 have N2 := Lib.hid n2
 have N3 := Lib.hid n3
 have N4 := Lib.hid n4
 have N5 := Lib.hid n5
 clear hA hT hL hK ht n1 n2 n3 n4 n5
 go_enter Tryz.func33, Tryz.ntmps33
 go_upto_region 3 with (first | (go_at_call 34; go_loud (refine (HC.out _).mono ?_); rintro e w1 ⟨rfl, rfl⟩) | (go_at_call 35; go_loud (refine (HW.out _ (Keeps.refl _ _)).mono ?_); rintro e w2 ⟨rfl, hk2⟩))
 have ka : Keeps NoB w2 (w2.alloc (.cells #[.int .i64 2, .int .i64 2, .int .i64 4] 64)) := (Keeps.refl _ _).alloc _
 have HN := Lib.hid (Bk.new (Keeps.refl NoB (w2.alloc (.cells #[.int .i64 2, .int .i64 2, .int .i64 4] 64))))
 have HK3 := Lib.hid (hk2.trans ka)
 have NA : Hid (A ≠ w2.heap.size) := by
  show A ≠ w2.heap.size
  have := HA.out.lt
  have := hk2.size
  omega
 have HNB : Hid (w.heap.size <= w2.heap.size) := Lib.hid hk2.size
 clear hk2 ka HC HW
 generalize w2.alloc (.cells #[.int .i64 2, .int .i64 2, .int .i64 4] 64) = w3 at *
 generalize w2.heap.size = NB at *
 go_loopw [17] (fun i wr => ∃ k : Nat, k <= 3 ∧ i = .int .i64 k ∧ Bk wr A (accX k) ∧ Keeps (fun g => g = A) w3 wr) (fun i _ => 4 - (intOf i).toNat)
 case atStart => exact ⟨0, by omega, rfl, HA.out.on HK3.out, Keeps.refl _ _⟩
 case round =>
  obtain ⟨k, hk, rfl, hb, hk4⟩ := hrel
  have HB := Lib.hid hb
  have HK4 := Lib.hid hk4
  have HNr := Lib.hid (HN.out.keep hk4 (fun e => NA.out e.symm))
  clear hb hk4
  rcases (show k = 0 ∨ k = 1 ∨ k = 2 ∨ k = 3 by omega) with rfl | rfl | rfl | rfl
  ·have a0 := HB.out.cell 0 _ rfl
   have m0 := HNr.out.cell 0 _ rfl
   have af := HB.out.fz 0
   have al := HB.out.lt
   have ml := HNr.out.lt
   go_upto_region 5 with fail
   go_region
   all_goals
    go_wp2
    go_roundw
    case rel => exact ⟨1, by omega, by go_num, (HB.out.put 0 (.int .i64 2)).on (Keeps.refl _ _).drew, (HK4.out.trans (kset wr ⟨A, 0, none⟩ (.int .i64 2))).drew⟩
    case measure => simp [intOf]
  ·have a0 := HB.out.cell 1 _ rfl
   have m0 := HNr.out.cell 1 _ rfl
   have af := HB.out.fz 1
   have al := HB.out.lt
   have ml := HNr.out.lt
   go_upto_region 5 with fail
   go_region
   all_goals
    go_wp2
    go_roundw
    case rel => exact ⟨2, by omega, by go_num, (HB.out.put 1 (.int .i64 2)).on (Keeps.refl _ _).drew, (HK4.out.trans (kset wr ⟨A, 1, none⟩ (.int .i64 2))).drew⟩
    case measure => simp [intOf]
  ·have a0 := HB.out.cell 2 _ rfl
   have m0 := HNr.out.cell 2 _ rfl
   have af := HB.out.fz 2
   have al := HB.out.lt
   have ml := HNr.out.lt
   go_upto_region 5 with fail
   go_region
   all_goals
    go_wp2
    go_roundw
    case rel => exact ⟨3, by omega, by go_num, (HB.out.put 2 (.int .i64 4)).on (Keeps.refl _ _).drew, (HK4.out.trans (kset wr ⟨A, 2, none⟩ (.int .i64 4))).drew⟩
    case measure => simp [intOf]
  ·have HTr := Lib.hid ((HT.out.on HK3.out).keep HK4.out N1.out)
   have HLr := Lib.hid ((HL.out.on HK3.out).keep HK4.out N2.out)
   have HKr := Lib.hid ((HK.out.on HK3.out).keep HK4.out N3.out)
   have k5 := kset wr ⟨T, 0, none⟩ (.int .i64 1)
   have NT : Hid (NB ≠ T) := by
    show NB ≠ T
    have h1 := HT.out.lt
    have h2 := HNB.out
    omega
   have HL5 := HLr.out.keep k5 N4.out
   have HN5 := HNr.out.keep k5 NT.out
   have HLn := Lib.hid (line_ex _ K (HKr.out.keep k5 N5.out))
   have HT5 := Lib.hid (HTr.out.put 0 (.int .i64 1))
   have HK5 := Lib.hid (((HK3.out.of_none (F := fun g => g = A ∨ g = T)).trans (HK4.out.mono (fun g _ hg => .inl hg))).trans (k5.mono (fun g _ hg => .inr hg)))
   have t0 := HTr.out.cell 0 _ rfl
   have tf := HTr.out.fz 0
   have tl := HTr.out.lt
   have l0 := HL5.cell 0 _ rfl
   have ll := HL5.lt
   have m0 := HN5.cell 0 _ rfl
   have m1 := HN5.cell 1 _ rfl
   have m2 := HN5.cell 2 _ rfl
   have ml := HN5.lt
   unfold lineF at l0
   clear k5 HL5 HN5
   go_wp2_with (go_at_call 31; go_loud (refine HLn.out.mono ?_); rintro e w6 ⟨rfl, hk6⟩)
   go_ret
   exact ⟨rfl, HK5.out.trans hk6.of_none, HT5.out.on hk6⟩
def res0 : List Value := [.string ⟨#[]⟩, .string ⟨#[]⟩, .int .i64 0]
def tellF (A T Lb : Nat) : Value := .func (.func 33) #[] #[.pointer (some ⟨A, 0, none⟩), .pointer (some ⟨T, 0, none⟩), .pointer (some ⟨Lb, 0, none⟩)]
def inEx (L : Nat) : Value := .iface 27 (.agg #[.string ⟨#[]⟩, .int .i64 0, .slice (some ⟨L, 0, none⟩) 1 1])
theorem each_ex (w : World) (A T Lb K L : Nat) {S : Nat -> Prop} {p : Option Addr} {c : Nat} (hS : SlAt encStr S w p c [⟨#[97]⟩]) (hE : Ex22 w L) (hA : Bk w A (accX 0)) (hT : Bk w T [.int .i64 0]) (hL : Bk w Lb [lineF K]) (hK : Bk w K [.string ⟨#[108]⟩]) (ht : As22 w) (n1 : T ≠ A) (n2 : Lb ≠ A) (n3 : K ≠ A) (n4 : Lb ≠ T) (n5 : K ≠ T) :
 Calls Tryz.prog 12 #[.string ⟨#[119, 99]⟩, .slice p 1 c, inEx L, tellF A T Lb] w fun e w' => e = .returned (.agg #[.string ⟨#[50, 32, 97, 10]⟩, .string ⟨#[]⟩, .int .i64 0]) ∧ Keeps (fun g => g = A ∨ g = T) w w' ∧ Bk w' T [.int .i64 1] := by
 obtain ⟨g, o, rfl, _, hgl, c0⟩ := hS.str (i := 0) (x := ⟨#[97]⟩) rfl
 have hcp := hS.cap
 have hmx := hS.max
 unfold maxLen at hmx
 simp only [List.length_cons, List.length_nil, Nat.zero_add] at hcp
 simp only [Nat.add_zero] at c0
 have HC0 : Hid (w.cell? ⟨g, o, none⟩ = some (.string ⟨#[97]⟩)) := c0
 have k1 : Keeps NoB w (w.alloc (.cells #[.string ⟨#[]⟩, .string ⟨#[]⟩, .int .i64 0] 31)) := (Keeps.refl _ _).alloc _
 have k2 : Keeps NoB (w.alloc (.cells #[.string ⟨#[]⟩, .string ⟨#[]⟩, .int .i64 0] 31)) ((w.alloc (.cells #[.string ⟨#[]⟩, .string ⟨#[]⟩, .int .i64 0] 31)).alloc (.cells #[.string ⟨#[]⟩, .string ⟨#[]⟩, .int .i64 0] 31)) := (Keeps.refl _ _).alloc _
 have HR0 := Lib.hid (Bk.new k2)
 have hr1 := Bk.new (Keeps.refl NoB ((w.alloc (.cells #[.string ⟨#[]⟩, .string ⟨#[]⟩, .int .i64 0] 31)).alloc (.cells #[.string ⟨#[]⟩, .string ⟨#[]⟩, .int .i64 0] 31)))
 rw [show (w.alloc (.cells #[.string ⟨#[]⟩, .string ⟨#[]⟩, .int .i64 0] 31)).heap.size = w.heap.size + 1 by simp] at hr1
 have HR1 := Lib.hid hr1
 have HK2 := Lib.hid (k1.trans k2)
 have hAl := hA.lt
 have hTl := hT.lt
 have hLl := hL.lt
 have hKl := hK.lt
 have HTell : Hid (∀ w4 : World, Keeps NoB w w4 -> Calls Tryz.prog 33 #[.string xyB, .string ⟨#[97]⟩, .pointer (some ⟨A, 0, none⟩), .pointer (some ⟨T, 0, none⟩), .pointer (some ⟨Lb, 0, none⟩)] w4 fun e w' => e = .returned (.string ⟨#[50, 32, 97, 10]⟩) ∧ Keeps (fun g => g = A ∨ g = T) w4 w' ∧ Bk w' T [.int .i64 1]) := Lib.hid fun w4 k => tell_ex w4 A T Lb K (hA.on k) (hT.on k) (hL.on k) (hK.on k) (ht.on k) n1 n2 n3 n4 n5
 have HRead : Hid (∀ w4 : World, Keeps NoB w w4 -> Calls Tryz.prog 28 #[.string ⟨#[97]⟩, inEx L] w4 fun e w' => e = .returned (.tuple #[.string xyB, .int .i64 0]) ∧ Keeps NoB w4 w') := Lib.hid fun w4 k => read_ex w4 L (Bk.on hE k)
 unfold inEx at HRead ⊢
 have HX : Hid ((⟨#[]⟩ ++ ⟨#[50, 32, 97, 10]⟩ : ByteArray) = ⟨#[50, 32, 97, 10]⟩) := Lib.hid (by decide)
 have a0 := c0
 clear hS hE hA hT hL hK ht n1 n2 n3 n4 n5 k1 k2 hr1 c0
 unfold tellF
 go_enter Tryz.func12, Tryz.ntmps12
 go_upto_region 10 with fail
 clear a0
 generalize (w.alloc (.cells #[.string ⟨#[]⟩, .string ⟨#[]⟩, .int .i64 0] 31)).alloc (.cells #[.string ⟨#[]⟩, .string ⟨#[]⟩, .int .i64 0] 31) = w2 at *
 go_loopw [47] (fun i wr => (i = .int .i64 0 ∧ wr = w2) ∨ (i = .int .i64 1 ∧ Bk wr (w.heap.size + 1) [.string ⟨#[50, 32, 97, 10]⟩, .string ⟨#[]⟩, .int .i64 0] ∧ Bk wr w.heap.size res0 ∧ Bk wr T [.int .i64 1] ∧ Keeps (fun g => g = A ∨ g = T ∨ g = w.heap.size + 1) w2 wr)) (fun i _ => 2 - (intOf i).toNat)
 case atStart => exact .inl ⟨rfl, rfl⟩
 case round =>
  rcases hrel with ⟨rfl, hw⟩ | ⟨rfl, hb1, hb0, hbt, hk⟩
  ·obtain rfl : w2 = wr := hw.symm
   have a0 : w2.cell? ⟨g, o, none⟩ = some (.string ⟨#[97]⟩) := (HK2.out.cell (p := ⟨g, o, none⟩) hgl (fun h => h)).trans HC0.out
   go_upto_region 17 with (first | (go_at_call 28; go_loud (refine (HRead.out _ HK2.out).mono ?_); rintro e w4 ⟨rfl, hk4⟩) | (go_at_call 33; go_loud (refine (HTell.out _ (HK2.out.trans hk4)).mono ?_); rintro e w5 ⟨rfl, hk5, hb5⟩))
   have n1 : ¬ (w.heap.size + 1 = A ∨ w.heap.size + 1 = T) := by omega
   have n0 : ¬ (w.heap.size = A ∨ w.heap.size = T) := by omega
   have hr1 := (HR1.out.on hk4).keep hk5 n1
   have hr0 := (HR0.out.on hk4).keep hk5 n0
   have r0 := hr1.cell 0 _ rfl
   have rf := hr1.fz 0
   have rl := hr1.lt
   have HB1 := Lib.hid (hr1.put 0 (.string (⟨#[]⟩ ++ ⟨#[50, 32, 97, 10]⟩)))
   have k6 := kset w5 ⟨w.heap.size + 1, 0, none⟩ (.string (⟨#[]⟩ ++ ⟨#[50, 32, 97, 10]⟩))
   have HB0 := Lib.hid (hr0.keep k6 (by show ¬ w.heap.size = w.heap.size + 1; omega))
   have HBT := Lib.hid (hb5.keep k6 (by show ¬ T = w.heap.size + 1; omega))
   have HK6 := Lib.hid (((hk4.of_none (F := fun g => g = A ∨ g = T ∨ g = w.heap.size + 1)).trans (hk5.mono (fun g _ hg => hg.elim .inl (fun h => .inr (.inl h))))).trans (k6.mono (fun g _ hg => .inr (.inr hg))))
   rw [HX.out] at HB1 HB0 HBT HK6
   clear k6 hr0 hr1 hb5 hk5
   go_wp2_with fail
   go_roundw
   case rel => exact .inr ⟨by go_num, HB1.out, HB0.out, HBT.out, HK6.out⟩
   case measure => simp [intOf]
  ·have r0 := hb1.cell 0 _ rfl
   have r1 := hb1.cell 1 _ rfl
   have r2 := hb1.cell 2 _ rfl
   have rl := hb1.lt
   have s0 := hb0.cell 0 _ rfl
   have s1 := hb0.cell 1 _ rfl
   have s2 := hb0.cell 2 _ rfl
   have sf := hb0.fz
   have sl := hb0.lt
   have HBT := Lib.hid hbt
   have HKr := Lib.hid hk
   clear hb1 hb0 hbt hk
   go_wp2_with fail
   refine bodyPost_ret (v := .agg #[.string ⟨#[50, 32, 97, 10]⟩, .string ⟨#[]⟩, .int .i64 0]) ?_ rfl ?_
   ·rw [results_cell_oneF rfl]; go_simp
   have k3 := kset wr ⟨w.heap.size, 0, none⟩ (.string ⟨#[50, 32, 97, 10]⟩)
   have k4 := kset (wr.setCell ⟨w.heap.size, 0, none⟩ (.string ⟨#[50, 32, 97, 10]⟩)) ⟨w.heap.size, 1, none⟩ (.string ⟨#[]⟩)
   have k5 := kset ((wr.setCell ⟨w.heap.size, 0, none⟩ (.string ⟨#[50, 32, 97, 10]⟩)).setCell ⟨w.heap.size, 1, none⟩ (.string ⟨#[]⟩)) ⟨w.heap.size, 2, none⟩ (.int .i64 0)
   have k6 := (k3.trans k4).trans k5
   refine ⟨rfl, ?_, HBT.out.keep k6 (by show ¬ T = w.heap.size; omega)⟩
   refine ((HK2.out.of_none (F := fun g => g = A ∨ g = T)).step HKr.out (fun g hg => ?_)).step k6 (fun g hg => .inr (Nat.le_of_eq hg.symm))
   rcases hg with h | h | h
   ·exact .inl (.inl h)
   ·exact .inl (.inr h)
   ·exact .inr (by omega)
theorem lit_strF (wx : World) (zs : Array Value) (bs : List UInt8) (h : zs.toList = bs.map fun b => Value.int .u8 (b.toNat : Int)) :
 (convert 28 9 (.slice (some ⟨wx.heap.size, 0, none⟩) bs.length bs.length)).run Tryz.prog (wx.alloc (.cells zs 5)) = .ok (.string ⟨bs.toArray⟩) (wx.alloc (.cells zs 5)) := by
 exact run_convert_bytes_back (P := Tryz.prog) (wx.alloc (.cells zs 5)) 28 9 5 ⟨wx.heap.size, 0, none⟩ bs.length bs Tryz.underlying28 Tryz.underlying5 Tryz.underlying9 (fun j hj => by
  rw [add_lit, Nat.zero_add]
  refine (Bk.new (Keeps.refl NoB (wx.alloc (.cells zs 5)))).cell j _ ?_
  rw [h, List.getElem?_map, List.getElem?_eq_getElem hj]
  rfl)
theorem count_ex (w : World) (L : Nat) {S : Nat -> Prop} {p : Option Addr} {c : Nat} (hS : SlAt encStr S w p c [⟨#[45, 108]⟩, ⟨#[97]⟩]) (hE : Ex22 w L) (ht : As22 w) :
 Calls Tryz.prog 15 #[.slice p 2 c, inEx L] w fun e w' => e = .returned (.agg #[.string ⟨#[50, 32, 97, 10]⟩, .string ⟨#[]⟩, .int .i64 0]) ∧ Keeps NoB w w' := by
 obtain ⟨g, o, rfl, _, hgl, c0⟩ := hS.str (i := 0) (x := ⟨#[45, 108]⟩) rfl
 have hcp := hS.cap
 have hmx := hS.max
 unfold maxLen at hmx
 simp only [List.length_cons, List.length_nil, Nat.zero_add] at hcp
 simp only [Nat.add_zero] at c0
 have hconv := fun wx => Lib.run_convert_string_bytes (P := Tryz.prog) wx 9 28 5 ⟨#[108]⟩ Tryz.underlying9 Tryz.underlying28 Tryz.underlying5
 have hex : (⟨#[45, 108]⟩ : ByteArray).extract 1 2 = ⟨#[108]⟩ := by decide
 have hcpn := hS.cap
 have hsub := hS.sub 1 2 (by omega) (by simp)
 rw [show ([(⟨#[45, 108]⟩ : ByteArray), ⟨#[97]⟩].take 2).drop 1 = [⟨#[97]⟩] from rfl] at hsub
 obtain ⟨vg, vo, hvp, _, hvl, _⟩ := hsub.str (i := 0) (x := ⟨#[97]⟩) rfl
 rw [show encStr.k = 1 from rfl] at hvp
 have hsl1 : ∀ wx : World, (Instr.slice 29 (.slice (some ⟨g, o, none⟩) 2 c) (some (.int .i64 1)) none none).run Tryz.prog wx = .ok (.slice (some ⟨vg, vo, none⟩) 1 (c - 1)) wx := fun wx => by
  rw [<- hvp]
  exact run_slice_l (P := Tryz.prog) 29 9 1 Tryz.underlying29 (by kernel_rfl) (some ⟨g, o, none⟩) 2 c 1 (by omega) wx (by omega)
 rw [show encStr.k = 1 from rfl, hvp] at hsub
 have HSub := Lib.hid hsub
 have HS1 := Lib.hid hsl1
 have HC0 : Hid (w.cell? ⟨g, o, none⟩ = some (.string ⟨#[45, 108]⟩)) := c0
 have HE := Lib.hid hE
 have HTb := Lib.hid ht
 have k1 : Keeps NoB w (w.alloc (.cells #[.string ⟨#[]⟩, .string ⟨#[]⟩, .int .i64 0] 31)) := (Keeps.refl _ _).alloc _
 have k2 : Keeps NoB (w.alloc (.cells #[.string ⟨#[]⟩, .string ⟨#[]⟩, .int .i64 0] 31)) ((w.alloc (.cells #[.string ⟨#[]⟩, .string ⟨#[]⟩, .int .i64 0] 31)).alloc (.cells #[.string ⟨#[]⟩] 9)) := (Keeps.refl _ _).alloc _
 obtain ⟨hsl, hkc⟩ := conv_sl ((w.alloc (.cells #[.string ⟨#[]⟩, .string ⟨#[]⟩, .int .i64 0] 31)).alloc (.cells #[.string ⟨#[]⟩] 9)) ⟨#[108]⟩ (by decide)
 have hz1 : (w.alloc (.cells #[.string ⟨#[]⟩, .string ⟨#[]⟩, .int .i64 0] 31)).heap.size = w.heap.size + 1 := by simp
 have hz2 : ((w.alloc (.cells #[.string ⟨#[]⟩, .string ⟨#[]⟩, .int .i64 0] 31)).alloc (.cells #[.string ⟨#[]⟩] 9)).heap.size = w.heap.size + 1 + 1 := by simp
 have HR0 := Lib.hid (Bk.new (k2.trans hkc))
 have hkb := Bk.new hkc
 rw [hz1] at hkb
 have HKb := Lib.hid hkb
 have t0 : (Lib.bytesWorld ((w.alloc (.cells #[.string ⟨#[]⟩, .string ⟨#[]⟩, .int .i64 0] 31)).alloc (.cells #[.string ⟨#[]⟩] 9)) 5 ⟨#[108]⟩).cell? ⟨w.heap.size + 1 + 1, 0, none⟩ = some (.int .u8 108) := by
  obtain ⟨g, off, e, _, _, hcc⟩ := hsl.at (i := 0) (x := 108) rfl
  cases e
  have := hcc 0 _ rfl
  rw [hz2] at this
  simpa [encU8] using this
 have HWB := Lib.hid ((k1.trans k2).trans hkc)
 have hcp2 := hsl.cap
 have hmx2 := hsl.max
 unfold maxLen at hmx2
 have HI0 := Lib.hid (fun wx => ib_any ⟨#[108, 119, 99]⟩ 108 wx)
 rw [show bIdx (⟨#[108, 119, 99]⟩ : ByteArray) ((108 : Int)).toNat.toUInt8 = 0 by decide] at HI0
 have HI1 := Lib.hid (fun wx => ib_any ⟨#[108]⟩ 108 wx)
 rw [show bIdx (⟨#[108]⟩ : ByteArray) ((108 : Int)).toNat.toUInt8 = 0 by decide] at HI1
 have HI2 := Lib.hid (fun wx => ib_any ⟨#[108]⟩ 119 wx)
 rw [show bIdx (⟨#[108]⟩ : ByteArray) ((119 : Int)).toNat.toUInt8 = -1 by decide] at HI2
 have HI3 := Lib.hid (fun wx => ib_any ⟨#[108]⟩ 99 wx)
 rw [show bIdx (⟨#[108]⟩ : ByteArray) ((99 : Int)).toNat.toUInt8 = -1 by decide] at HI3
 have HX : Hid ((⟨#[]⟩ ++ ⟨#[108]⟩ : ByteArray) = ⟨#[108]⟩) := Lib.hid (by decide)
 have HCp := Lib.hid hcp
 have HMx : Hid (c <= 2 ^ 63 - 1) := Lib.hid hmx
 clear hS hE ht hsub hvp hsl1 k1 k2 hsl hkc hz1 hz2 hkb
 go_enter Tryz.func15, Tryz.ntmps15
 go_upto_region 5 with fail
 clear c0 hconv
 generalize Lib.bytesWorld ((w.alloc (.cells #[.string ⟨#[]⟩, .string ⟨#[]⟩, .int .i64 0] 31)).alloc (.cells #[.string ⟨#[]⟩] 9)) 5 ⟨#[108]⟩ = wB at *
 go_loop [43] (fun i => i = .int .i64 0 ∨ i = .int .i64 1) (fun i => 2 - (intOf i).toNat)
 case atStart => exact .inl rfl
 case round =>
  rcases hrel with rfl | rfl
  ·go_wp2_with (go_at_call 30; go_loud (refine (HI0.out _).mono ?_); rintro e w3 ⟨rfl, rfl⟩)
   go_round
   case rel => exact .inr (by go_num)
   case measure => simp [intOf]
  ·clear t0
   have hcc : (convert 28 28 (.slice (some ⟨wB.heap.size, 0, none⟩) 3 3)).run Tryz.prog (wB.alloc (.cells #[.int .u8 108, .int .u8 119, .int .u8 99] 5)) = .ok (.slice (some ⟨wB.heap.size, 0, none⟩) 3 3) (wB.alloc (.cells #[.int .u8 108, .int .u8 119, .int .u8 99] 5 (3, 4))) := Lib.run_convert_bytes_const wB 28 5 _ 3 3 Tryz.underlying28 Tryz.underlying5
   have m0 : (wB.alloc (.cells #[.int .u8 108, .int .u8 119, .int .u8 99] 5 (3, 4))).cell? ⟨wB.heap.size, 0, none⟩ = some (.int .u8 108) := by rw [cell_of_row _ _ 0 _ _ (3, 4) (heap_alloc_new wB _)]; rfl
   have m1 : (wB.alloc (.cells #[.int .u8 108, .int .u8 119, .int .u8 99] 5 (3, 4))).cell? ⟨wB.heap.size, 1, none⟩ = some (.int .u8 119) := by rw [cell_of_row _ _ 1 _ _ (3, 4) (heap_alloc_new wB _)]; rfl
   have m2 : (wB.alloc (.cells #[.int .u8 108, .int .u8 119, .int .u8 99] 5 (3, 4))).cell? ⟨wB.heap.size, 2, none⟩ = some (.int .u8 99) := by rw [cell_of_row _ _ 2 _ _ (3, 4) (heap_alloc_new wB _)]; rfl
   have HM0 := Lib.hid m0
   have HM1 := Lib.hid m1
   have HM2 := Lib.hid m2
   have ml : wB.heap.size < (wB.alloc (.cells #[.int .u8 108, .int .u8 119, .int .u8 99] 5 (3, 4))).heap.size := by simp
   have HMl := Lib.hid ml
   have kc : Keeps NoB wB (wB.alloc (.cells #[.int .u8 108, .int .u8 119, .int .u8 99] 5 (3, 4))) := (Keeps.refl _ _).alloc _
   have HKc := Lib.hid (HKb.out.on kc)
   have HRc := Lib.hid (HR0.out.on kc)
   have HWC := Lib.hid (HWB.out.trans kc)
   have hbs := HKb.out.lt
   have HBs := Lib.hid hbs
   clear kc m0 m1 m2 hbs
   go_upto_region 11 with fail
   clear hcc ml
   generalize wB.alloc (.cells #[.int .u8 108, .int .u8 119, .int .u8 99] 5 (3, 4)) = wC at *
   generalize wB.heap.size = NB at *
   go_loopw [55] (fun i wr => ∃ k : Nat, k <= 3 ∧ i = .int .i64 k ∧ Bk wr (w.heap.size + 1) [.string (if k = 0 then ⟨#[]⟩ else ⟨#[108]⟩)] ∧ Keeps (fun g => g = w.heap.size + 1) wC wr) (fun i _ => 4 - (intOf i).toNat)
   case atStart => exact ⟨0, by omega, rfl, HKc.out, Keeps.refl _ _⟩
   case round =>
    obtain ⟨k, hk, rfl, hb, hkw⟩ := hrel
    have HB := Lib.hid hb
    have HKw := Lib.hid hkw
    have hne : ¬ NB = w.heap.size + 1 := by have := HBs.out; omega
    have c0 : wr.cell? ⟨g, o, none⟩ = some (.string ⟨#[45, 108]⟩) := (hkw.cell (p := ⟨g, o, none⟩) (Nat.lt_of_lt_of_le hgl HWC.out.size) (fun e => by have e' : g = w.heap.size + 1 := e; omega)).trans ((HWC.out.cell (p := ⟨g, o, none⟩) hgl (fun h => h)).trans HC0.out)
    have HM0r : Hid (wr.cell? ⟨NB, 0, none⟩ = some (.int .u8 108)) := Lib.hid ((hkw.cell (p := ⟨NB, 0, none⟩) HMl.out hne).trans HM0.out)
    have HM1r : Hid (wr.cell? ⟨NB, 1, none⟩ = some (.int .u8 119)) := Lib.hid ((hkw.cell (p := ⟨NB, 1, none⟩) HMl.out hne).trans HM1.out)
    have HM2r : Hid (wr.cell? ⟨NB, 2, none⟩ = some (.int .u8 99)) := Lib.hid ((hkw.cell (p := ⟨NB, 2, none⟩) HMl.out hne).trans HM2.out)
    clear hb hkw
    rcases (show k = 0 ∨ k = 1 ∨ k = 2 ∨ k = 3 by omega) with rfl | rfl | rfl | rfl
    ·have hb : Bk wr (w.heap.size + 1) [.string ⟨#[]⟩] := HB.out
     have m0 := HM0r.out
     have b0 := hb.cell 0 _ rfl
     have bf := hb.fz 0
     have bl := hb.lt
     have hlit : (convert 28 9 (.slice (some ⟨wr.heap.size, 0, none⟩) 1 1)).run Tryz.prog (wr.alloc (.cells #[.int .u8 108] 5)) = .ok (.string ⟨#[108]⟩) (wr.alloc (.cells #[.int .u8 108] 5)) := lit_strF wr #[.int .u8 108] [108] rfl
     have HB2 := Lib.hid ((hb.put 0 (.string (⟨#[]⟩ ++ ⟨#[108]⟩))).on ((Keeps.refl NoB _).alloc (.cells #[.int .u8 108] 5)))
     have HK2 := Lib.hid ((HKw.out.trans (kset wr ⟨w.heap.size + 1, 0, none⟩ (.string (⟨#[]⟩ ++ ⟨#[108]⟩)))).alloc (.cells #[.int .u8 108] 5))
     clear hb
     go_wp2_with (go_at_call 30; go_loud (refine (HI1.out _).mono ?_); rintro e w3 ⟨rfl, rfl⟩)
     go_roundw
     case rel => exact ⟨1, by omega, by go_num, by have h2 := HB2.out; rw [HX.out] at h2 ⊢; exact h2, HK2.out⟩
     case measure => simp [intOf]
    ·have m1 := HM1r.out
     go_wp2_with (go_at_call 30; go_loud (refine (HI2.out _).mono ?_); rintro e w3 ⟨rfl, rfl⟩)
     go_roundw
     case rel => exact ⟨2, by omega, by go_num, HB.out, HKw.out⟩
     case measure => simp [intOf]
    ·have m2 := HM2r.out
     go_wp2_with (go_at_call 30; go_loud (refine (HI3.out _).mono ?_); rintro e w3 ⟨rfl, rfl⟩)
     go_roundw
     case rel => exact ⟨3, by omega, by go_num, HB.out, HKw.out⟩
     case measure => simp [intOf]
    ·have hsl1 := HS1.out
     have hw1 : w.heap.size + 1 < wr.heap.size := HB.out.lt
     have d1 : Keeps NoB wr (wr.alloc (.cells #[.int .i64 0, .int .i64 0, .int .i64 0] 64)) := (Keeps.refl _ _).alloc _
     have d2 : Keeps NoB (wr.alloc (.cells #[.int .i64 0, .int .i64 0, .int .i64 0] 64)) ((wr.alloc (.cells #[.int .i64 0, .int .i64 0, .int .i64 0] 64)).alloc (.cells #[.int .i64 0] 3)) := (Keeps.refl _ _).alloc _
     have d3 : Keeps NoB ((wr.alloc (.cells #[.int .i64 0, .int .i64 0, .int .i64 0] 64)).alloc (.cells #[.int .i64 0] 3)) (((wr.alloc (.cells #[.int .i64 0, .int .i64 0, .int .i64 0] 64)).alloc (.cells #[.int .i64 0] 3)).alloc (.cells #[.func (.func 31) #[] #[.pointer (some ⟨w.heap.size + 1, 0, none⟩)]] 66)) := (Keeps.refl _ _).alloc _
     have z1 : (wr.alloc (.cells #[.int .i64 0, .int .i64 0, .int .i64 0] 64)).heap.size = wr.heap.size + 1 := by simp
     have z2 : ((wr.alloc (.cells #[.int .i64 0, .int .i64 0, .int .i64 0] 64)).alloc (.cells #[.int .i64 0] 3)).heap.size = wr.heap.size + 1 + 1 := by simp
     have hA := Bk.new (d2.trans d3)
     have hT := Bk.new d3
     rw [z1] at hT
     have hL := Bk.new (Keeps.refl NoB (((wr.alloc (.cells #[.int .i64 0, .int .i64 0, .int .i64 0] 64)).alloc (.cells #[.int .i64 0] 3)).alloc (.cells #[.func (.func 31) #[] #[.pointer (some ⟨w.heap.size + 1, 0, none⟩)]] 66)))
     rw [z2] at hL
     have kd := (d1.trans d2).trans d3
     have hKl : Bk (((wr.alloc (.cells #[.int .i64 0, .int .i64 0, .int .i64 0] 64)).alloc (.cells #[.int .i64 0] 3)).alloc (.cells #[.func (.func 31) #[] #[.pointer (some ⟨w.heap.size + 1, 0, none⟩)]] 66)) (w.heap.size + 1) [.string ⟨#[108]⟩] := HB.out.on kd
     have HKD := Lib.hid ((HWC.out.trans (Keeps.refl _ _)).step (HKw.out.trans kd.of_none) (fun g hg => .inr (by have e : g = w.heap.size + 1 := hg; omega)))
     have hSD : SlAt encStr S (((wr.alloc (.cells #[.int .i64 0, .int .i64 0, .int .i64 0] 64)).alloc (.cells #[.int .i64 0] 3)).alloc (.cells #[.func (.func 31) #[] #[.pointer (some ⟨w.heap.size + 1, 0, none⟩)]] 66)) (some ⟨vg, vo, none⟩) (c - 1) [⟨#[97]⟩] := HSub.out.keepN HKD.out
     have hED : Ex22 (((wr.alloc (.cells #[.int .i64 0, .int .i64 0, .int .i64 0] 64)).alloc (.cells #[.int .i64 0] 3)).alloc (.cells #[.func (.func 31) #[] #[.pointer (some ⟨w.heap.size + 1, 0, none⟩)]] 66)) L := Bk.on HE.out HKD.out
     have HEa := Lib.hid (each_ex _ wr.heap.size (wr.heap.size + 1) (wr.heap.size + 1 + 1) (w.heap.size + 1) L hSD hED hA hT hL hKl (HTb.out.on HKD.out) (by omega) (by omega) (by omega) (by omega) (by omega))
     unfold tellF at HEa
     have HRD := Lib.hid ((HRc.out.keep HKw.out (by show ¬ w.heap.size = w.heap.size + 1; omega)).on kd)
     clear d1 d2 d3 z1 z2 hA hT hL kd hKl hSD hED
     go_upto_region 21 with (go_at_call 12; go_loud (refine HEa.out.mono ?_); rintro e w6 ⟨rfl, hk6, hb6⟩)
     have ka : Keeps NoB w6 (w6.alloc (.cells #[.string ⟨#[50, 32, 97, 10]⟩, .string ⟨#[]⟩, .int .i64 0] 31)) := (Keeps.refl _ _).alloc _
     have hr := Bk.new (Keeps.refl NoB (w6.alloc (.cells #[.string ⟨#[50, 32, 97, 10]⟩, .string ⟨#[]⟩, .int .i64 0] 31)))
     have hs := ((HRD.out.keep hk6 (by show ¬ (w.heap.size = wr.heap.size ∨ w.heap.size = wr.heap.size + 1); omega)).on ka)
     have ht := hb6.on ka
     have t0 := ht.cell 0 _ rfl
     have tl := ht.lt
     have r0 := hr.cell 0 _ rfl
     have r1 := hr.cell 1 _ rfl
     have r2 := hr.cell 2 _ rfl
     have rl := hr.lt
     have s0 := hs.cell 0 _ rfl
     have s1 := hs.cell 1 _ rfl
     have s2 := hs.cell 2 _ rfl
     have sf := hs.fz
     have sl := hs.lt
     have HK7 := Lib.hid ((HKD.out.step hk6 (fun g hg => .inr (by rcases hg with h | h <;> omega))).trans ka)
     clear hr hs ht hk6 hb6 ka hw1
     generalize w6.alloc (.cells #[.string ⟨#[50, 32, 97, 10]⟩, .string ⟨#[]⟩, .int .i64 0] 31) = w7 at *
     generalize w6.heap.size = RB at *
     go_wp2_with fail
     refine bodyPost_ret (v := .agg #[.string ⟨#[50, 32, 97, 10]⟩, .string ⟨#[]⟩, .int .i64 0]) ?_ rfl ?_
     ·rw [results_cell_oneF rfl]; go_simp
     refine ⟨rfl, ?_⟩
     exact ((HK7.out.step (kset w7 ⟨w.heap.size, 0, none⟩ (.string ⟨#[50, 32, 97, 10]⟩)) (fun g hg => .inr (Nat.le_of_eq hg.symm))).step (kset _ ⟨w.heap.size, 1, none⟩ _) (fun g hg => .inr (Nat.le_of_eq hg.symm))).step (kset _ ⟨w.heap.size, 2, none⟩ _) (fun g hg => .inr (Nat.le_of_eq hg.symm))
theorem wc_ex (w : World) (L : Nat) {S : Nat -> Prop} {p : Option Addr} {c : Nat} (hS : SlAt encStr S w p c [⟨#[45, 108]⟩, ⟨#[97]⟩]) (hE : Ex22 w L) (ht : As22 w) :
 Calls Tryz.prog 6 #[.string ⟨#[119, 99]⟩, .slice p 2 c, inEx L] w fun e w' => e = .returned (.agg #[.string ⟨#[50, 32, 97, 10]⟩, .string ⟨#[]⟩, .int .i64 0]) ∧ Keeps NoB w w' := by
 have ka : Keeps NoB w (w.alloc (.cells #[.string ⟨#[]⟩, .string ⟨#[]⟩, .int .i64 0] 31)) := (Keeps.refl _ _).alloc _
 have HC := Lib.hid (count_ex _ L (hS.keepN ka) (Bk.on hE ka) (ht.on ka))
 clear hS hE ht ka
 go_enter Tryz.func6, Tryz.ntmps6
 go_wp2_with (go_at_call 15; go_loud (refine HC.out.mono ?_); rintro e w1 ⟨rfl, hk1⟩; have hb := Bk.new hk1; have r0 := hb.cell 0 _ rfl; have r1 := hb.cell 1 _ rfl; have r2 := hb.cell 2 _ rfl; have rf := hb.fz; have rl := hb.lt)
 refine bodyPost_ret (v := .agg #[.string ⟨#[50, 32, 97, 10]⟩, .string ⟨#[]⟩, .int .i64 0]) ?_ rfl ?_
 ·rw [results_cell_oneF rfl]; go_simp
 refine ⟨rfl, ?_⟩
 have k := (((Keeps.refl NoB w).alloc (.cells #[.string ⟨#[]⟩, .string ⟨#[]⟩, .int .i64 0] 31)).trans hk1)
 exact ((k.step (kset _ ⟨w.heap.size, 0, none⟩ _) (fun g hg => .inr (Nat.le_of_eq hg.symm))).step (kset _ ⟨w.heap.size, 1, none⟩ _) (fun g hg => .inr (Nat.le_of_eq hg.symm))).step (kset _ ⟨w.heap.size, 2, none⟩ _) (fun g hg => .inr (Nat.le_of_eq hg.symm))
theorem anchor22_any (w : World) (ht : As22 w) : Calls Tryz.prog 5 #[] w fun e w' => e = .returned (.bool true) ∧ Keeps NoB w w' := by
 have k1 : Keeps NoB w (w.alloc (.cells #[.string ⟨#[45, 108]⟩, .string ⟨#[97]⟩] 9)) := (Keeps.refl _ _).alloc _
 have k2 : Keeps NoB (w.alloc (.cells #[.string ⟨#[45, 108]⟩, .string ⟨#[97]⟩] 9)) ((w.alloc (.cells #[.string ⟨#[45, 108]⟩, .string ⟨#[97]⟩] 9)).alloc (.cells #[.string ⟨#[97]⟩, .string xyB, .int .i64 0] 38)) := (Keeps.refl _ _).alloc _
 have hS := ((own_lit (E := encStr) (e := 9) (w := w) (S := fun _ => True) [⟨#[45, 108]⟩, ⟨#[97]⟩] #[.string ⟨#[45, 108]⟩, .string ⟨#[97]⟩] rfl 2 rfl trivial (by decide)).at).keepN k2
 have hE := Bk.new (Keeps.refl NoB ((w.alloc (.cells #[.string ⟨#[45, 108]⟩, .string ⟨#[97]⟩] 9)).alloc (.cells #[.string ⟨#[97]⟩, .string xyB, .int .i64 0] 38)))
 rw [show (w.alloc (.cells #[.string ⟨#[45, 108]⟩, .string ⟨#[97]⟩] 9)).heap.size = w.heap.size + 1 by simp] at hE
 have HR := Lib.hid (wc_ex _ (w.heap.size + 1) hS hE (ht.on (k1.trans k2)))
 have HK := Lib.hid (k1.trans k2)
 unfold inEx at HR
 clear hS hE ht k1 k2
 go_enter Tryz.func5, Tryz.ntmps5
 go_wp2_with (go_at_call 6; go_loud (refine HR.out.mono ?_); rintro e w1 ⟨rfl, hk1⟩)
 go_ret
 exact ⟨ret_bool (by simp), (HK.out.trans hk1).alloc _⟩
theorem isIn_snocB (l : List ByteArray) (s : ByteArray) {k : Nat} {x : ByteArray} (h : l[k]? = some x) : isIn (l.take (k + 1)) s = (isIn (l.take k) s || decide (x = s)) := by
 unfold isIn
 rw [List.take_add_one, h, List.any_append]
 simp
theorem toList_eqb (x s : ByteArray) : (x.toList == s.toList) = decide (x = s) := by
 by_cases h : x = s
 ·subst h; simp
 ·rw [toList_ne h]; simp [h]
set_option maxHeartbeats 8000000
theorem fNm_less : ∀ j : Fin 13, Op.bytesLess (fNm[j.1]?.getD ⟨#[]⟩).data.toList (fNm[j.1 + 1]?.getD ⟨#[]⟩).data.toList = true := by decide
theorem filterNames_any (s : ByteArray) (p : Option Addr) (n c : Nat) (W : World) (ht : As22 W) : Calls Tryz.prog 4 #[.string s, .slice p n c] W fun e w' => e = .returned (.bool true) ∧ Keeps NoB W w' := by
 have HA := Lib.hid (anchor22_any W ht)
 have HN := Lib.hid fnames_any
 have HF := Lib.hid fhas_any
 have hc : 100 < s.size ∨ (s.size <= 100 ∧ 30 < n) ∨ (s.size <= 100 ∧ n <= 30) := by omega
 rcases hc with z | ⟨z, z2⟩ | ⟨hs, hn⟩
 ·have q : (100 : Int) < s.size := by omega
  go_enter Tryz.func4, Tryz.ntmps4
  go_wp2_with (go_at_call 5; go_loud (refine HA.out.mono ?_); rintro e w1 ⟨rfl, hk1⟩)
  go_ret
  exact ⟨rfl, hk1⟩
 ·have q : (30 : Int) < n := by omega
  go_enter Tryz.func4, Tryz.ntmps4
  go_wp2_with (go_at_call 5; go_loud (refine HA.out.mono ?_); rintro e w1 ⟨rfl, hk1⟩)
  go_ret
  exact ⟨rfl, hk1⟩
 have HSz := Lib.hid hs
 go_enter Tryz.func4, Tryz.ntmps4
 go_wp2_with (first | (go_at_call 5; go_loud (refine HA.out.mono ?_); rintro e w1 ⟨rfl, hk1⟩) | (go_at_call 7; go_loud (refine (HN.out _).mono ?_); rintro e w2 ⟨rfl, hs2, hk2⟩))
 have HS := Lib.hid hs2
 have HK := Lib.hid (hk1.trans hk2)
 have hz : w1.heap.size < w2.heap.size := by
  obtain ⟨_, _, e, _, hg, _⟩ := hs2.str (i := 0) (x := ⟨#[98, 97, 115, 101, 110, 97, 109, 101]⟩) rfl
  cases e; exact hg
 clear hs2 hk1 hk2 HA HN
 go_loopw [6, 22] (fun f i wr => ∃ k : Nat, k <= 14 ∧ i = .int .i64 k ∧ f = .bool (isIn (fNm.take k) s) ∧ Keeps NoB w2 wr) (fun _ i _ => 15 - (intOf i).toNat)
 case atStart => exact ⟨0, by omega, rfl, rfl, Keeps.refl _ _⟩
 case round =>
  obtain ⟨k, hk, rfl, rfl, hkw⟩ := hrel
  have HKw := Lib.hid hkw
  clear hkw
  by_cases hlt : k < 14
  ·obtain ⟨x, hx⟩ : ∃ x, fNm[k]? = some x := ⟨_, List.getElem?_eq_getElem (by show k < 14; exact hlt)⟩
   obtain ⟨g, off, hg, _, _, c0⟩ := (HS.out.keepN HKw.out).str hx
   cases hg
   simp only [Nat.zero_add] at c0
   have HX := Lib.hid hx
   have HIs := Lib.hid (isIn_snocB fNm s hx)
   have hF := Lib.hid (fun w => fhas_any x w)
   have hin : isIn fNm x = true := isIn_some hx rfl
   rw [hin] at hF
   have HEb := Lib.hid (toList_eqb x s)
   obtain ⟨fb, hfb⟩ : ∃ fb, isIn (fNm.take k) s = fb := ⟨_, rfl⟩
   rw [hfb] at HIs ⊢
   clear hin hfb
   by_cases h0 : k = 0
   ·subst h0
    clear hx
    cases fb
    all_goals
     go_wp2_with (go_at_call 8; go_loud (refine (hF.out _).mono ?_); rintro e w4 ⟨rfl, hk4⟩)
     go_roundw
     case rel => exact ⟨1, by omega, by go_num, by rw [HIs.out]; first | rfl | rw [HEb.out]; rfl, HKw.out.trans hk4⟩
     case measure => simp [intOf]
   ·obtain ⟨j, rfl⟩ : ∃ j, k = j + 1 := ⟨k - 1, by omega⟩
    obtain ⟨y, hy⟩ : ∃ y, fNm[j]? = some y := ⟨_, List.getElem?_eq_getElem (by show j < 14; omega)⟩
    have hls := fNm_less ⟨j, by omega⟩
    simp only at hls
    rw [hy, hx] at hls
    simp only [Option.getD_some] at hls
    rw [<- Lib.toList_data, <- Lib.toList_data] at hls
    obtain ⟨g, off, hg, _, _, c1⟩ := (HS.out.keepN HKw.out).str hy
    cases hg
    simp only [Nat.zero_add] at c1
    clear hy hx
    cases fb
    all_goals
     go_wp2_with (go_at_call 8; go_loud (refine (hF.out _).mono ?_); rintro e w4 ⟨rfl, hk4⟩)
     go_roundw
     case rel => exact ⟨j + 1 + 1, by omega, by go_num, by rw [HIs.out]; first | rfl | rw [HEb.out]; rfl, HKw.out.trans hk4⟩
     case measure => simp [intOf]; omega
  ·obtain rfl : k = 14 := by omega
   have hT := Lib.hid (fun w => fhas_any s w)
   rw [show fNm.take 14 = fNm from rfl]
   obtain ⟨fb, hfb⟩ : ∃ fb, isIn fNm s = fb := ⟨_, rfl⟩
   rw [hfb] at hT ⊢
   cases fb
   ·have HR := Lib.hid (fun (bt' : TypeId) (bv : Value) (w : World) => frun_none s hfb (by have := HSz.out; omega) p n c bt' bv w)
    go_wp2_with (first | (go_at_call 8; go_loud (refine (hT.out _).mono ?_); rintro e w3 ⟨rfl, hk3⟩) | (go_at_call 6; go_loud (refine (HR.out _ _ _).mono ?_); rintro e w5 ⟨rfl, hk5⟩))
    go_ret
    exact ⟨ret_bool (by simp), ((HK.out.trans HKw.out).trans hk3).trans hk5⟩
   ·go_wp2_with (go_at_call 8; go_loud (refine (hT.out _).mono ?_); rintro e w3 ⟨rfl, hk3⟩)
    go_ret
    exact ⟨ret_bool (by simp), (HK.out.trans HKw.out).trans hk3⟩
theorem as22_of {W : World} (h : laidMet Tryz.prog [("strings.asciiSpace", Rows.laid_strings_asciiSpace)] W) : As22 W := by
 rw [show Rows.laid_strings_asciiSpace = Lib.tabData .u8 Lib.asciiSpaceTab by kernel_rfl] at h
 have ht := Lib.tabIs_of_head (show Tryz.prog.globalNamed "strings.asciiSpace" = some 1 by kernel_rfl) (show (Tryz.prog.globals[1]?).map (·.type) = some 112 by kernel_rfl)
  (show Tryz.prog.underlying 112 = some (.array 256 5) by kernel_rfl) (show Tryz.prog.underlying 5 = some (.int .u8) by kernel_rfl) (by kernel_rfl) (by kernel_rfl) h
 intro c hc
 rw [ht.cell (show Tryz.prog.globalNamed "strings.asciiSpace" = some 1 by kernel_rfl) c (by rw [Lib.asciiSpaceTab_length]; exact hc), Lib.asciiSpaceTab_at c hc]
end Go.Proofs.YtdecbpgojlhemaaGreatDoor
namespace Go.Proofs.YtdecbpgojlhemaaGreatDoor
open Go.RowKit Go.ChangeShapes Go.WideShapes Go.ChangeAt
theorem list_of {α : Type} {Q : Nat -> α -> Prop} : ∀ n, (∀ i, i < n -> ∃ x, Q i x) -> ∃ l : List α, l.length = n ∧ ∀ i x, l[i]? = some x -> Q i x
 | 0, _ => ⟨[], rfl, fun i x h => by simp at h⟩
 | n + 1, h => by
   obtain ⟨l, hl, hq⟩ := list_of n (fun i hi => h i (by omega))
   obtain ⟨x, hx⟩ := h n (by omega)
   refine ⟨l ++ [x], by simp [hl], fun i y hy => ?_⟩
   by_cases hi : i < n
   ·rw [List.getElem?_append_left (by omega)] at hy; exact hq i y hy
   ·rw [List.getElem?_append_right (by omega)] at hy
    have hi0 : i - l.length = 0 := by
     have := (List.getElem?_eq_some_iff.1 hy).1
     simp at this; omega
    rw [hi0] at hy
    have : i = n := by omega
    subst this
    simp at hy; subst hy; exact hx
section
variable {H : Type} {enc : TypeId × Value -> H} {P : Program} {W : World}
theorem open_sl {α : Type} (E : Enc α) {good : α -> Prop} {t e : TypeId} {p : Option Addr} {len cap : Nat} {d : DataW H} {ps : List MemPlace} (ht : P.underlying t = some (.slice e)) (hC : P.cellsOf e = E.k)
 (h : DataW.Trod enc P W 0 (fun _ => true) true t (.slice p len cap) d ps)
 (hdec : ∀ (n : Nat) (cs : List Value) (y : DataW H × List MemPlace), cs.length = E.k -> DataW.trod enc P W 0 (fun _ => true) true n e cs = some y -> ∃ x, E.enc x = cs ∧ good x) :
 ∃ l : List α, len = l.length ∧ SlAt E (fun g => g < W.heap.size) W p cap l ∧ ∀ x ∈ l, good x := by
 obtain ⟨fuel, hf⟩ := h
 rcases Go.Deep.open_slice ht hf with ⟨hcs, _⟩ | ⟨a, len1, cap1, m, n, D, Pl, hcs, _, hl, hm, hmm, _, hi⟩
 ·simp [Value.cells] at hcs
  obtain ⟨e1, e2, e3⟩ := hcs
  subst e1 e2 e3
  exact ⟨[], rfl, ⟨Nat.le_refl _, Nat.zero_le _, fun _ => rfl, (fun h => by omega), (fun h => by simp at h)⟩, by simp⟩
 ·simp [Value.cells] at hcs
  obtain ⟨e1, e2, e3⟩ := hcs
  subst e1 e2 e3
  simp only [if_true] at hmm
  have hmm1 := hmm.symm
  subst hmm1
  clear hmm
  obtain ⟨l, hll, hq⟩ := list_of (Q := fun i x => (∀ j, j < E.k -> W.cell? (a.add (i * E.k + j)) = (E.enc x)[j]?) ∧ good x) cap (fun i him => by
   obtain ⟨cs', hc, ht'⟩ := hi i him
   rw [hC] at hc
   obtain ⟨_, hcl, hat⟩ := World.cells?_some hc
   obtain ⟨x, hx, hg⟩ := hdec n cs' _ hcl ht'
   refine ⟨x, fun j hj => ?_, hg⟩
   rw [hx, <- hat j hj, Go.Deep.add_add])
  have hspot : 0 < cap -> a.spot = none := fun h0 => by
   obtain ⟨x, hx⟩ : ∃ x, l[0]? = some x := ⟨_, List.getElem?_eq_getElem (by omega)⟩
   have h1 := (hq 0 x hx).1 0 E.pos
   obtain ⟨u, hu⟩ : ∃ u, (E.enc x)[0]? = some u := ⟨_, List.getElem?_eq_getElem (by rw [E.len]; exact E.pos)⟩
   rw [hu] at h1
   simpa [Addr.add] using World.cell?_spot h1
  refine ⟨l.take len, by simp; omega, ⟨by simp; omega, hm, (fun h => by cases h), (fun h0 a' ha => by cases ha; exact hspot h0), fun h0 => ?_⟩, fun x hx => ?_⟩
  ·simp at h0
   have hs := hspot (by omega)
   obtain ⟨b, off, sp⟩ := a
   subst hs
   refine ⟨b, off, rfl, ?_, ?_, fun j hj => ?_⟩
   rotate_left 2
   ·have hk := E.pos
    rw [List.length_take, Nat.min_eq_left (by omega)] at hj
    have hd : j = j / E.k * E.k + j % E.k := by rw [Nat.mul_comm]; exact (Nat.div_add_mod j E.k).symm
    have hm' := Nat.mod_lt j hk
    have hq' : j / E.k < len := Nat.div_lt_of_lt_mul (by rw [Nat.mul_comm]; exact hj)
    obtain ⟨x, hx⟩ : ∃ x, l[j / E.k]? = some x := ⟨_, List.getElem?_eq_getElem (by omega)⟩
    have h1 := (hq _ x hx).1 _ hm'
    rw [add_lit] at h1
    rw [hd, h1, E.flat_get _ _ _ hm', List.getElem?_take, if_pos hq', hx]; rfl
   all_goals
    obtain ⟨x, hx⟩ : ∃ x, l[0]? = some x := ⟨_, List.getElem?_eq_getElem (by omega)⟩
    have h1 := (hq 0 x hx).1 0 E.pos
    obtain ⟨u, hu⟩ : ∃ u, (E.enc x)[0]? = some u := ⟨_, List.getElem?_eq_getElem (by rw [E.len]; exact E.pos)⟩
    rw [hu, add_lit] at h1
    exact lt_of_cell h1
  ·obtain ⟨i, hi⟩ := List.mem_iff_getElem?.1 (List.mem_of_mem_take hx)
   exact (hq i x hi).2
theorem open_strs_sl {t e : TypeId} {p : Option Addr} {len cap : Nat} {d : DataW H} {ps : List MemPlace} (ht : P.underlying t = some (.slice e)) (he : P.underlying e = some .string) (hC : P.cellsOf e = 1)
 (h : DataW.Trod enc P W 0 (fun _ => true) true t (.slice p len cap) d ps) :
 ∃ l : List ByteArray, len = l.length ∧ SlAt encStr (fun g => g < W.heap.size) W p cap l ∧ ∀ s ∈ l, s.size <= maxLen := by
 refine open_sl encStr ht hC h fun n cs y hl hy => ?_
 match cs, hl with
 | [v], _ =>
   obtain ⟨s, hs, _, hz⟩ := DataW.trod_string he hy
   exact ⟨s, hs.symm, hz⟩
end
end Go.Proofs.YtdecbpgojlhemaaGreatDoor
