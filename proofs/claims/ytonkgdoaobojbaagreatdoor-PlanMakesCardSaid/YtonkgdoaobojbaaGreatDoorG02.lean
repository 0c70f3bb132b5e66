/-
  Layer 10, plain: bytes that stand for themselves, bytes behind backslashes. No program in sight.
-/
import Derived.Test.YtonkgdoaobojbaaGreatDoorG01
import Derived.Test.YtonkgdoaobojbaaGreatDoorProg
import Derived.Lib.Slices
import Derived.Lib.ConvBytes
import Derived.Laws.IdiomStrings
import Derived.Laws.BitsAllLaws
import Derived.Deep.QuietTactic
import Derived.BigQuiet
import Derived.Shelf.Strings.SplitCore
import Derived.Shelf.Strings.Count
import Derived.Lib.SplitLaws

set_option linter.unusedSimpArgs false
set_option linter.unusedVariables false
set_option maxRecDepth 100000
namespace Go.Proofs.YtonkgdoaobojbaaGreatDoor
def plnB (z : Int) : Bool := decide (32 <= z) && decide (z <= 126) && !decide (z = 37) && !decide (z = 92) && !decide (z = 39)
def plnC (c : UInt8) : Bool := plnB (c.toNat : Int)
def escC (c : UInt8) : List UInt8 := if plnC c then [c] else [92, 48 + c / 64, 48 + c / 8 % 8, 48 + c % 8]
def escL (l : List UInt8) : List UInt8 := l.flatMap escC
theorem escC_len (c : UInt8) : (escC c).length = if plnC c then 1 else 4 := by unfold escC; split <;> rfl
theorem escL_le : ∀ l : List UInt8, (escL l).length <= 4 * l.length
 | [] => Nat.le_refl _
 | c :: l => by
   have h1 := escL_le l
   have h2 := escC_len c
   unfold escL at *
   rw [List.flatMap_cons, List.length_append, h2, List.length_cons]
   split <;> omega
theorem escL_snoc (l : List UInt8) (c : UInt8) : escL (l ++ [c]) = escL l ++ escC c := by unfold escL; simp
theorem take_next {l : List UInt8} {k : Nat} {c : UInt8} (h : l[k]? = some c) : l.take (k + 1) = l.take k ++ [c] := by
 obtain ⟨h1, h2⟩ := List.getElem?_eq_some_iff.1 h
 rw [List.take_succ_eq_append_getElem h1, h2]
end Go.Proofs.YtonkgdoaobojbaaGreatDoor
namespace Go.Proofs.YtonkgdoaobojbaaGreatDoor
open Go.RowKit
set_option maxHeartbeats 400000 in
theorem ib_any (s : ByteArray) (c : Int) (w : World) :
 Calls Tryz.prog 104 #[.string s, .int .u8 c] w fun e w' => e = .returned (.int .i64 (bIdx s c.toNat.toUInt8)) ∧ w = w' := by
 go_enter Tryz.func104, Tryz.ntmps104
 go_wp2
 rw [run_callFunc_extern Tryz.func150 (by kernel_rfl) (by kernel_rfl) (by kernel_rfl) (e := Extern.BytealgIndexByte.indexByte) (by kernel_rfl), run_indexByte_string]
 simp only [Result.andThen, Lib.firstIdx_eq]
 rw [Oper.upon_value]
 go_wp2
 go_ret
 exact ⟨rfl, rfl⟩
theorem ret_bool {a b : Bool} (h : a = b) : Ending.returned (.bool a) = Ending.returned (.bool b) := by rw [h]
theorem ret_i64 {a b : Int} (h : a = b) : Ending.returned (.int .i64 a) = Ending.returned (.int .i64 b) := by rw [h]
set_option maxHeartbeats 400000 in
theorem name_any (s : ByteArray) (w : World) :
 Calls Tryz.prog 127 #[.string s] w fun e w' => e = .returned (.bool (okName s)) ∧ w = w' := by
 have H := Lib.hid (okName_eq s)
 go_enter Tryz.func127, Tryz.ntmps127
 go_wp2_with (go_at_call 104; refine (ib_any _ _ _).mono ?_; rintro e w' ⟨rfl, rfl⟩)
 all_goals
  go_ret
  refine ⟨ret_bool ?_, rfl⟩
  rw [H.out]
  first | (simp [*]; done) | (simp [*]; omega) | (simp [*]; intros; omega)
set_option maxHeartbeats 400000 in
theorem r2has_any (s : ByteArray) (c : Int) (w : World) (hs : s.size <= maxLen) (hc : 0 <= c) (hc2 : c < 256) :
 Calls Tryz.prog 74 #[.string s, .int .u8 c] w fun e w' => e = .returned (.bool (hasB s c.toNat.toUInt8)) ∧ w = w' := by
 unfold maxLen at hs
 go_enter Tryz.func74, Tryz.ntmps74
 go_wp2
 go_loop [5] (fun i => ∃ k : Nat, k <= s.size ∧ i = .int .i64 k ∧ ∀ (j : Nat) (h : j < s.size), j < k -> ¬ s[j] = c.toNat.toUInt8) (fun i => s.size - (intOf i).toNat)
 case atStart => exact ⟨0, Nat.zero_le _, rfl, fun j _ hj => by omega⟩
 case round =>
  obtain ⟨k, hk, rfl, hno⟩ := hrel
  have Hno := Lib.hid hno
  clear hno
  by_cases hlt : k < s.size
  ·have Hb := Lib.hid (byte_eq s[k] c hc hc2)
   go_wp2
   ·go_ret
    refine ⟨ret_bool ?_, rfl⟩
    have h : ((s[k].toNat : Int) == c) = true := by assumption
    rw [Hb.out, decide_eq_true_eq] at h
    exact ((hasB_iff s _).2 ⟨k, hlt, h⟩).symm
   ·have h : ((s[k].toNat : Int) == c) = false := by assumption
    rw [Hb.out, decide_eq_false_iff_not] at h
    go_round
    case rel =>
     refine ⟨k + 1, by omega, by go_num, fun j hj hjk => ?_⟩
     by_cases e : j = k
     ·subst e; exact h
     ·exact Hno.out j hj (by omega)
    case measure => simp [intOf]; omega
  ·go_wp2
   go_ret
   refine ⟨ret_bool ?_, rfl⟩
   symm
   rw [<- Bool.not_eq_true, hasB_iff]
   rintro ⟨j, hj, e⟩
   exact Hno.out j hj (by omega) e
set_option maxHeartbeats 400000 in
theorem r2name_any (s : ByteArray) (w : World) (hs : s.size <= maxLen) :
 Calls Tryz.prog 73 #[.string s] w fun e w' => e = .returned (.bool (okName s)) ∧ w = w' := by
 have hs' := hs
 unfold maxLen at hs
 have H := Lib.hid (okName_eq2 s)
 go_enter Tryz.func73, Tryz.ntmps73
 go_wp2_with (go_at_call 74; refine (r2has_any _ _ _ hs' (by decide) (by decide)).mono ?_; rintro e w' ⟨rfl, rfl⟩)
 all_goals
  go_ret
  refine ⟨ret_bool ?_, rfl⟩
  rw [H.out]
  first | (simp [*]; done) | (simp [*]; omega) | (simp [*]; intros; omega)
end Go.Proofs.YtonkgdoaobojbaaGreatDoor
set_option maxHeartbeats 4000000
namespace Go.Proofs.YtonkgdoaobojbaaGreatDoor
open Go Go.RowKit
theorem extra169 : Builder.Extra Tryz.prog lays169_ren where
 sizeBuilder := by kernel_rfl
 liesBuilder := by kernel_rfl
 t5 := Tryz.underlying5
 a5 := Tryz.isAgg5
 z5 := Tryz.sizeOf5
 v5 := Tryz.zeroValue5
 infoByte := by kernel_rfl
 cellsByte := by kernel_rfl
 sizeByte := by kernel_rfl
 neB5 := by decide
theorem enc_cells (l : List UInt8) : Lib.byteCells l = l.flatMap encU8.enc := by
 unfold Lib.byteCells encU8
 induction l with
 | nil => rfl
 | cons a l ih => simp [List.flatMap_cons, ih]
theorem sbString_any {S : Nat -> Prop} {w : World} {b B : Nat} {s : List UInt8} (h : BA S w b s) (hS : ∀ g, S g -> B <= g) (hb : B <= b) (hBw : B <= w.heap.size) :
 Calls Tryz.prog 54 #[.pointer (some ⟨b, 0, none⟩)] w fun e w' => e = .returned (.string ⟨s.toArray⟩) ∧ Keeps (fun g => B <= g) w w' := by
 obtain ⟨p, v, h1, h2, h3⟩ := h.ex
 have hI : Lib.IsBuilder 98 5 B b (Lib.byteCells s) w := by
  have hA : Lib.BuilderAt 98 5 B b p (Lib.byteCells s) w := by
   refine ⟨hb, v, h1, ?_, fun e => h.nS (h3.2 b e)⟩
   have h4 := h3.1
   rw [Lib.byteCells_length, enc_cells]
   refine ⟨h4.1, h4.2.imp id ?_⟩
   rintro ⟨g, cap, cur, hv, hg, r⟩
   exact ⟨g, cap, cur, hv, hS g (h3.2 g (by rw [hv]; rfl)), r⟩
  rcases h2 with rfl | rfl
  ·exact .inl hA
  ·exact .inr hA
 refine (Any.Builder_String_any lays169 extra169 B b s w hI hBw).mono ?_
 rintro e w' ⟨rfl, k⟩
 exact ⟨rfl, k.os, k.tape, k.output, k.size, fun i hi hn => k.block i (by omega)⟩
theorem plain_any (z : Int) (w : World) : Calls Tryz.prog 107 #[.int .u8 z] w fun e w' => e = .returned (.bool (plnB z)) ∧ w = w' := by
 go_enter Tryz.func107, Tryz.ntmps107
 go_wp2
 all_goals
  go_ret
  refine ⟨ret_bool ?_, rfl⟩
  unfold plnB
  first | (simp [*]; done) | (simp [*]; omega) | (by_cases h39 : z = 39 <;> simp [*])
theorem oc_facts (c : UInt8) : IntKind.u8.wrap ((c.toNat : Int)) = (c.toNat : Int) := by
 have := c.toNat_lt
 show ((c.toNat : Int)) % 256 = _
 omega
theorem conv_sl (w : World) (s : ByteArray) (hs : s.size <= maxLen) :
 SlAt encU8 (fun g => g = w.heap.size) (Lib.bytesWorld w 5 s) (some ⟨w.heap.size, 0, none⟩) (grownCap w s.size 0 5) s.data.toList ∧ Keeps NoB w (Lib.bytesWorld w 5 s) := by
 have hge : s.size <= grownCap w s.size 0 5 := grownCap_ge w s.size 0 5
 have hle := grownCap_le_maxLen w s.size 0 5 hs
 have hsize := Lib.bytesWorld_size w 5 s
 have hl : s.data.toList.length = s.size := len_data s
 refine ⟨⟨by rw [hl]; exact hge, hle, (fun h => by cases h), (fun _ a ha => by cases ha; rfl), fun _ => ⟨w.heap.size, 0, rfl, rfl, by rw [hsize]; omega, fun j hj => ?_⟩⟩, ?_⟩
 ·have hj2 : j < s.data.toList.length := by simpa [encU8] using hj
  rw [Nat.zero_add, Lib.bytesWorld_cell w 5 s j hj2]
  have := Enc.flat_get encU8 s.data.toList j 0 (by decide)
  simp only [show encU8.k = 1 from rfl, Nat.mul_one, Nat.add_zero] at this
  rw [this, List.getElem?_eq_getElem hj2]
  simp [List.getD, List.getElem?_eq_getElem hj2, encU8]
 ·refine ⟨?_, ?_, ?_, by omega, fun k hk _ => Lib.bytesWorld_at_old w 5 s k hk⟩
  ·simp [Lib.bytesWorld, World.freeze]; rfl
  ·simp [Lib.bytesWorld, World.freeze]
  ·simp [Lib.bytesWorld, World.freeze]; rfl
theorem oct_fin : ∀ n : Fin 256, (48 + (n.val : Int) / 64) % 256 = ((48 + UInt8.ofNat n.val / 64).toNat : Int) ∧ (48 + bits BinOp.and IntKind.u8 ((n.val : Int) / 8) 7) % 256 = ((48 + UInt8.ofNat n.val / 8 % 8).toNat : Int) ∧ (48 + bits BinOp.and IntKind.u8 (n.val : Int) 7) % 256 = ((48 + UInt8.ofNat n.val % 8).toNat : Int) := by decide +kernel
theorem oct_cells (c : UInt8) : (48 + (c.toNat : Int) / 64) % 256 = ((48 + c / 64).toNat : Int) ∧ (48 + bits BinOp.and IntKind.u8 ((c.toNat : Int) / 8) 7) % 256 = ((48 + c / 8 % 8).toNat : Int) ∧ (48 + bits BinOp.and IntKind.u8 (c.toNat : Int) 7) % 256 = ((48 + c % 8).toNat : Int) := by
 have := oct_fin ⟨c.toNat, c.toNat_lt⟩
 simpa using this
theorem fEscape_any (s : ByteArray) (w : World) (hs : s.size <= 1000000000) :
 Calls Tryz.prog 71 #[.string s] w fun e w' => e = .returned (.string ⟨(escL s.data.toList).toArray⟩) ∧ Keeps NoB w w' := by
 have hconv := fun wx => Lib.run_convert_string_bytes (P := Tryz.prog) wx 9 58 5 s Tryz.underlying9 Tryz.underlying58 Tryz.underlying5
 obtain ⟨l, hls⟩ : ∃ l, s.data.toList = l := ⟨_, rfl⟩
 have hl : l.length = s.size := by rw [<- hls]; exact len_data s
 rw [hls]
 have HLS := Lib.hid hls
 clear hls
 go_enter Tryz.func71, Tryz.ntmps71
 go_upto_region 2 with fail
 have HB0 := Lib.hid (BA.new (S := fun g => w.heap.size + 1 < g) w (by omega))
 have HK0 := Lib.hid ((Keeps.refl NoB w).alloc (.cells #[.pointer none, .slice none 0 0] 98))
 have hz0 : (w.alloc (.cells #[.pointer none, .slice none 0 0] 98)).heap.size = w.heap.size + 1 := by simp
 go_upto_region 3 with fail
 generalize w.alloc (.cells #[.pointer none, .slice none 0 0] 98) = w1 at *
 obtain ⟨hsl, hkc⟩ := conv_sl w1 s (by unfold maxLen; omega)
 rw [HLS.out] at hsl
 have hsz2 : (Lib.bytesWorld w1 5 s).heap.size = w.heap.size + 2 := by rw [Lib.bytesWorld_size, hz0]
 rw [hz0] at hsl
 have HJ0 : Hid (BA (fun g => w.heap.size + 1 < g) (Lib.bytesWorld w1 5 s) w.heap.size (escL (l.take 0)) ∧ SlAt encU8 (fun g => g = w.heap.size + 1) (Lib.bytesWorld w1 5 s) (some ⟨w.heap.size + 1, 0, none⟩) (grownCap w1 s.size 0 5) l ∧ Keeps NoB w (Lib.bytesWorld w1 5 s) ∧ w.heap.size + 2 <= (Lib.bytesWorld w1 5 s).heap.size) := ⟨HB0.out.on hkc, hsl, HK0.out.trans hkc, by omega⟩
 clear hconv HB0 HK0 hkc hsl hz0 hsz2
 generalize grownCap w1 s.size 0 5 = cp at *
 generalize Lib.bytesWorld w1 5 s = w2 at *
 rw [<- hl] at hs ⊢
 clear hl HLS
 go_wp2_with fail
 go_loopw [9] (fun i wr => ∃ k : Nat, k <= l.length ∧ i = .int .i64 k ∧ BA (fun g => w.heap.size + 1 < g) wr w.heap.size (escL (l.take k)) ∧ SlAt encU8 (fun g => g = w.heap.size + 1) wr (some ⟨w.heap.size + 1, 0, none⟩) cp l ∧ Keeps NoB w wr ∧ w.heap.size + 2 <= wr.heap.size) (fun i _ => l.length + 1 - (intOf i).toNat)
 case atStart => exact ⟨0, Nat.zero_le _, rfl, HJ0.out.1, HJ0.out.2.1, HJ0.out.2.2.1, HJ0.out.2.2.2⟩
 case round =>
  obtain ⟨k, hk, rfl, hB, hL, hK, hsz⟩ := hrel
  have HB := Lib.hid hB
  have HL := Lib.hid hL
  have HK := Lib.hid hK
  clear hB hL hK HJ0
  have hcap := HL.out.cap
  have hmx := HL.out.max
  unfold maxLen at hmx
  have hle := escL_le (l.take k)
  have hlt' : (l.take k).length <= k := List.length_take_le _ _
  by_cases hlt : k < l.length
  ·obtain ⟨c, hc⟩ : ∃ c, l[k]? = some c := ⟨_, List.getElem?_eq_getElem hlt⟩
   have t0 : wr.cell? ⟨w.heap.size + 1, k, none⟩ = some (.int .u8 (c.toNat : Int)) := by
    obtain ⟨g, off, e, _, _, hcc⟩ := HL.out.at hc
    cases e
    have := hcc 0 _ rfl
    simpa [encU8] using this
   have hnx := Lib.hid (take_next hc)
   have hpl := Lib.hid (plain_any (c.toNat : Int))
   have hwr := oc_facts c
   have hS : ∀ g, wr.heap.size <= g -> w.heap.size + 1 < g := fun g hg => by omega
   have HS := Lib.hid hS
   clear hS hc
   by_cases hp : plnB (c.toNat : Int) = true
   ·have HW := Lib.hid (sbWriteByte_any HB.out HS.out c (by omega))
    rw [hp] at hpl
    have HE := Lib.hid (show escL (l.take (k + 1)) = escL (l.take k) ++ [c] by rw [hnx.out, escL_snoc]; unfold escC plnC; rw [if_pos hp])
    clear hp
    go_wp2_with (first | (go_at_call 107; go_loud (refine (hpl.out _).mono ?_); rintro e w3 ⟨rfl, rfl⟩) | (go_at_call 85; go_loud (refine HW.out.mono ?_); rintro e w4 ⟨rfl, hB4, hk4⟩))
    go_roundw
    case rel => exact ⟨k + 1, by omega, by go_num, by rw [HE.out]; exact hB4, HL.out.keep hk4 (fun g hg _ h => by omega), HK.out.step hk4 (fun g hg => by omega), by have := hk4.size; omega⟩
    case measure => simp [intOf]; omega
   ·have hp2 : plnB (c.toNat : Int) = false := by simpa using hp
    rw [hp2] at hpl
    clear hp
    obtain ⟨e1, e2, e3⟩ := oct_cells c
    have HE := Lib.hid (show escL (l.take (k + 1)) = escL (l.take k) ++ [92, 48 + c / 64, 48 + c / 8 % 8, 48 + c % 8] by rw [hnx.out, escL_snoc]; unfold escC plnC; rw [if_neg (by rw [hp2]; simp)])
    have ka : Keeps NoB wr (wr.alloc (.cells #[.int .u8 92, .int .u8 ((48 + (c.toNat : Int) / 64) % 256), .int .u8 ((48 + bits BinOp.and IntKind.u8 ((c.toNat : Int) / 8) 7) % 256), .int .u8 ((48 + bits BinOp.and IntKind.u8 (c.toNat : Int) 7) % 256)] 5)) := (Keeps.refl _ _).alloc _
    have hlit := (own_lit (E := encU8) (e := 5) (w := wr) (S := fun g => g = wr.heap.size) [92, 48 + c / 64, 48 + c / 8 % 8, 48 + c % 8] #[.int .u8 92, .int .u8 ((48 + (c.toNat : Int) / 64) % 256), .int .u8 ((48 + bits BinOp.and IntKind.u8 ((c.toNat : Int) / 8) 7) % 256), .int .u8 ((48 + bits BinOp.and IntKind.u8 (c.toNat : Int) 7) % 256)] (by rw [e1, e2, e3]; rfl) 4 rfl rfl (by decide)).at
    have hsa : (wr.alloc (.cells #[.int .u8 92, .int .u8 ((48 + (c.toNat : Int) / 64) % 256), .int .u8 ((48 + bits BinOp.and IntKind.u8 ((c.toNat : Int) / 8) 7) % 256), .int .u8 ((48 + bits BinOp.and IntKind.u8 (c.toNat : Int) 7) % 256)] 5)).heap.size = wr.heap.size + 1 := by simp
    have HW := Lib.hid (sbWrite_any (HB.out.on ka) (fun g hg => HS.out g (by omega)) hlit (fun h => by have := HB.out.lt; omega) (by simp only [List.length_cons, List.length_nil]; omega))
    have HKA := Lib.hid ka
    simp only [List.length_cons, List.length_nil, Nat.zero_add, Nat.reduceAdd] at HW
    clear hp2 e1 e2 e3 ka hlit hwr
    go_wp2_with (first | (go_at_call 107; go_loud (refine (hpl.out _).mono ?_); rintro e w3 ⟨rfl, rfl⟩) | (go_at_call 108; go_loud (refine HW.out.mono ?_); rintro e w4 ⟨rfl, hB4, hk4⟩))
    go_roundw
    case rel => exact ⟨k + 1, by omega, by go_num, by rw [HE.out]; exact hB4, (HL.out.keepN HKA.out).keep hk4 (fun g hg _ h => by omega), (HK.out.trans HKA.out).step hk4 (fun g hg => by omega), by have := hk4.size; omega⟩
    case measure => simp [intOf]; omega
  ·obtain rfl : k = l.length := by omega
   rw [List.take_length] at HB
   have HSt := Lib.hid (sbString_any (B := w.heap.size) HB.out (fun g hg => by omega) (Nat.le_refl _) (by omega))
   clear hle hlt'
   go_wp2_with (go_at_call 54; go_loud (refine HSt.out.mono ?_); rintro e w4 ⟨rfl, hk4⟩)
   go_ret
   exact ⟨rfl, HK.out.step hk4 (fun g hg => .inr hg)⟩
theorem fEscaped_any (s : ByteArray) (w : World) (hs : s.size <= 1000000000) :
 Calls Tryz.prog 100 #[.string s] w fun e w' => e = .returned (.int .i64 ((escL s.data.toList).length : Int)) ∧ Keeps NoB w w' := by
 have hconv := fun wx => Lib.run_convert_string_bytes (P := Tryz.prog) wx 9 58 5 s Tryz.underlying9 Tryz.underlying58 Tryz.underlying5
 obtain ⟨l, hls⟩ : ∃ l, s.data.toList = l := ⟨_, rfl⟩
 have hl : l.length = s.size := by rw [<- hls]; exact len_data s
 obtain ⟨hsl, hkc⟩ := conv_sl w s (by unfold maxLen; omega)
 rw [hls] at hsl ⊢
 have HL := Lib.hid hsl
 have HK := Lib.hid hkc
 have HM := Lib.hid hsl.max
 have HC := Lib.hid hsl.cap
 clear hls hsl hkc
 go_enter Tryz.func100, Tryz.ntmps100
 go_upto_region 3 with fail
 clear hconv
 generalize grownCap w s.size 0 5 = cp at *
 generalize Lib.bytesWorld w 5 s = w2 at *
 rw [<- hl] at hs ⊢
 clear hl
 have hmx := HM.out
 have hcp := HC.out
 unfold maxLen at hmx
 clear HM HC
 go_loop [3, 11] (fun n i => ∃ k : Nat, k <= l.length ∧ i = .int .i64 k ∧ n = .int .i64 (((escL (l.take k)).length + (l.length - k) : Nat) : Int)) (fun _ i => l.length + 1 - (intOf i).toNat)
 case atStart => exact ⟨0, Nat.zero_le _, rfl, by rw [show (escL (l.take 0)).length = 0 from rfl, Nat.zero_add, Nat.sub_zero]⟩
 case round =>
  obtain ⟨k, hk, rfl, rfl⟩ := hrel
  have hle := escL_le (l.take k)
  have hlt' : (l.take k).length <= k := List.length_take_le _ _
  by_cases hlt : k < l.length
  ·obtain ⟨c, hc⟩ : ∃ c, l[k]? = some c := ⟨_, List.getElem?_eq_getElem hlt⟩
   have t0 : w2.cell? ⟨w.heap.size, k, none⟩ = some (.int .u8 (c.toNat : Int)) := by
    obtain ⟨g, off, e, _, _, hcc⟩ := HL.out.at hc
    cases e
    have := hcc 0 _ rfl
    simpa [encU8] using this
   have hpl := Lib.hid (plain_any (c.toNat : Int))
   have hnx := Lib.hid (show (escL (l.take (k + 1))).length = (escL (l.take k)).length + (if plnB (c.toNat : Int) = true then 1 else 4) by rw [take_next hc, escL_snoc, List.length_append, escC_len]; rfl)
   clear hc
   obtain ⟨m, hm⟩ : ∃ m, (escL (l.take k)).length + (l.length - k) = m := ⟨_, rfl⟩
   rw [hm]
   by_cases hp : plnB (c.toNat : Int) = true
   ·rw [hp] at hpl
    rw [if_pos hp] at hnx
    have HN : Hid ((escL (l.take (k + 1))).length + (l.length - (k + 1)) = m) := Lib.hid (by rw [hnx.out]; omega)
    clear hp hle hm
    go_wp2_with (go_at_call 107; go_loud (refine (hpl.out _).mono ?_); rintro e w3 ⟨rfl, rfl⟩)
    go_round
    case rel => exact ⟨k + 1, by omega, by go_num, by rw [HN.out]⟩
    case measure => simp [intOf]; omega
   ·have hp2 : plnB (c.toNat : Int) = false := by simpa using hp
    rw [hp2] at hpl
    rw [if_neg hp] at hnx
    have HN : Hid ((escL (l.take (k + 1))).length + (l.length - (k + 1)) = m + 3) := Lib.hid (by rw [hnx.out]; omega)
    have hmb : m <= 5000000000 := by omega
    clear hp hp2 hle hm
    go_wp2_with (go_at_call 107; go_loud (refine (hpl.out _).mono ?_); rintro e w3 ⟨rfl, rfl⟩)
    go_round
    case rel => exact ⟨k + 1, by omega, by go_num, by rw [HN.out]; go_num⟩
    case measure => simp [intOf]; omega
  ·obtain rfl : k = l.length := by omega
   rw [List.take_length]
   clear hle hlt'
   go_wp2
   go_ret
   exact ⟨ret_i64 (by omega), HK.out⟩
theorem own_str {S : Nat -> Prop} {w : World} {v : Value} {l : List UInt8} (h : Own encU8 5 S w v l) : (convert 58 9 v).run Tryz.prog w = .ok (.string ⟨l.toArray⟩) w := by
 rcases h.cases with ⟨rfl, rfl⟩ | ⟨g, cap, cur, rfl, _, hg, hcap, hmax, hsz, htk⟩
 ·rw [run_convert_bytes_string w 58 9 5 none 0 0 Tryz.underlying58 Tryz.underlying5 Tryz.underlying9]
  rfl
 ·have := run_convert_bytes_back (P := Tryz.prog) w 58 9 5 ⟨g, 0, none⟩ cap l Tryz.underlying58 Tryz.underlying5 Tryz.underlying9 (fun j hj => by
   rw [add_lit, Nat.zero_add, cell_of_row w g _ cur 5 (0, 0) hg, <- Array.getElem?_toList]
   have h1 := Enc.flat_get encU8 l j 0 (by decide)
   simp only [show encU8.k = 1 from rfl, Nat.mul_one, Nat.add_zero] at h1 htk
   rw [<- htk, List.getElem?_take, if_pos hj] at h1
   rw [h1, List.getElem?_eq_getElem hj]
   rfl)
  simpa using this
set_option maxHeartbeats 8000000
theorem letter_any (n : Nat) (hn : n < 64) (w : World) : Calls Tryz.prog 131 #[.int .u8 (n : Int)] w fun e w' => e = .returned (.int .u8 ((uuL n).toNat : Int)) ∧ w = w' := by
 have hl : ((uuL n).toNat : Int) = if n = 0 then 96 else 32 + (n : Int) := uuL_nat ⟨n, hn⟩
 rw [hl]
 by_cases h0 : n = 0
 ·subst h0
  go_enter Tryz.func131, Tryz.ntmps131
  go_wp2
  go_ret
  exact ⟨rfl, rfl⟩
 ·have h1 : ¬ (n : Int) = 0 := by omega
  have h2 : (n : Int) < 64 := by omega
  rw [if_neg h0]
  go_enter Tryz.func131, Tryz.ntmps131
  go_wp2
  go_ret
  exact ⟨rfl, rfl⟩
def uuP (l : List UInt8) : List UInt8 := l ++ List.replicate ((3 - l.length % 3) % 3) 0
theorem uuP_len (l : List UInt8) : (uuP l).length = (l.length + 2) / 3 * 3 := by
 unfold uuP
 rw [List.length_append, List.length_replicate]
 omega
theorem uuG_pad : ∀ l : List UInt8, uuG (uuP l) = uuG l
 | [] => rfl
 | [_] => rfl
 | [_, _] => rfl
 | a :: b :: c :: l => by
   have h : uuP (a :: b :: c :: l) = a :: b :: c :: uuP l := by
    unfold uuP
    rw [show ((a :: b :: c :: l).length) % 3 = l.length % 3 by simp only [List.length_cons]; omega]
    rfl
   rw [h, uuG, uuG, uuG_pad l]
theorem uuG_three {l : List UInt8} {i : Nat} {a b c : UInt8} (ha : l[i]? = some a) (hb : l[i + 1]? = some b) (hc : l[i + 2]? = some c) (hi : i % 3 = 0) : uuG (l.take (i + 3)) = uuG (l.take i) ++ uu4 (uuN a b c) := by
 have h3 : l.take (i + 3) = l.take i ++ [a, b, c] := by
  rw [List.take_add_one (i := i + 2), List.take_add_one (i := i + 1), List.take_add_one (i := i), ha, hb, hc]
  simp
 have hlen : (l.take i).length % 3 = 0 := by
  have := (List.getElem?_eq_some_iff.1 ha).1
  rw [List.length_take, Nat.min_eq_left (by omega)]
  exact hi
 rw [h3]
 generalize l.take i = m at *
 clear h3
 induction hn : m.length using Nat.strongRecOn generalizing m with
 | ind n ih =>
   match m, hlen, hn with
   | [], _, _ => simp [uuG]
   | [_], h, _ => simp at h
   | [_, _], h, _ => simp at h
   | x :: y :: z :: r, h, hn =>
     show uuG (x :: y :: z :: (r ++ [a, b, c])) = _
     rw [uuG, uuG, ih r.length (by rw [<- hn]; simp; omega) r (by simp only [List.length_cons] at h; omega) rfl, List.append_assoc]
theorem or3 (a b c : Nat) (ha : a < 256) (hb : b < 256) (hc : c < 256) : bits .or .u32 (bits .or .u32 ((a : Int) * 65536) ((b : Int) * 256)) (c : Int) = ((a * 65536 + b * 256 + c : Nat) : Int) := by
 have e1 : (a * 65536) ||| (b * 256) = a * 65536 + b * 256 := by
  have := Nat.two_pow_add_eq_or_of_lt (i := 16) (b := b * 256) (by omega) a
  rw [show 2 ^ 16 * a = a * 65536 by omega] at this
  exact this.symm
 have e2 : (a * 65536 + b * 256) ||| c = a * 65536 + b * 256 + c := by
  have := Nat.two_pow_add_eq_or_of_lt (i := 8) (b := c) (by omega) (a * 256 + b)
  rw [show 2 ^ 8 * (a * 256 + b) = a * 65536 + b * 256 by omega] at this
  exact this.symm
 rw [show ((a : Int) * 65536) = ((a * 65536 : Nat) : Int) by omega, show ((b : Int) * 256) = ((b * 256 : Nat) : Int) by omega, Go.u32_or_nat _ _ (by omega) (by omega), e1, Go.u32_or_nat _ _ (by omega) (by omega), e2]
theorem and63 (x : Nat) (hx : x < 4294967296) : bits .and .u32 (x : Int) 63 = ((x % 64 : Nat) : Int) := by
 rw [show (63 : Int) = ((63 : Nat) : Int) from rfl, Go.u32_and_nat _ _ hx (by decide), show (63 : Nat) = 2 ^ 6 - 1 from rfl, Nat.and_two_pow_sub_one_eq_mod]
theorem idx_str (t : ByteArray) (i : Nat) (z : Int) (hz : z = (i : Int)) (b : UInt8) (hb : t.data.toList[i]? = some b) (w : World) : (Instr.index 9 (.string t) (.int .i64 z)).run Tryz.prog w = .ok (.int .u8 (b.toNat : Int)) w := by
 subst hz
 obtain ⟨hi0, hi1⟩ := List.getElem?_eq_some_iff.1 hb
 have hi : i < t.size := by rw [len_data] at hi0; exact hi0
 rw [run_index_string w 9 t .i64 _ Tryz.underlying9, dif_pos ⟨by omega, by omega⟩]
 have e : ((i : Int)).toNat = i := by omega
 simp only [e]
 rw [show t[i]'hi = b from hi1]
theorem uuline_any (s : ByteArray) (hs : s.size <= 45) (w : World) :
 Calls Tryz.prog 106 #[.string s] w fun e w' => e = .returned (.string ⟨(uuLine s.data.toList).toArray⟩) ∧ Keeps NoB w w' := by
 obtain ⟨l, hl⟩ : ∃ l, s.data.toList = l := ⟨_, rfl⟩
 have hz : s.size = l.length := by rw [<- hl, len_data]
 rw [hl]
 have HL := Lib.hid (fun (n : Nat) (hn : n < 64) (w1 : World) => letter_any n hn w1)
 have HL0 := Lib.hid (fun (w1 : World) => letter_any l.length (by omega) w1)
 have HSl : Hid (s.data.toList = l) := hl
 have hz45 : (s.size : Int) <= 45 := by omega
 have HZ : Hid (l.length <= 45 ∧ s.size = l.length) := by show _ ∧ _; omega
 have HU : Hid (uuLine l = uuL l.length :: (uuG l ++ [10])) := Lib.hid rfl
 rw [HU.out]
 have HOwn := Lib.hid (own_lit (E := encU8) (e := 5) (w := w) (S := fun g => w.heap.size <= g) [uuL l.length] #[.int .u8 ((uuL l.length).toNat : Int)] rfl 1 rfl (Nat.le_refl _) (by decide))
 have HK1 := Lib.hid ((Keeps.refl NoB w).alloc (.cells #[.int .u8 ((uuL l.length).toNat : Int)] 5))
 clear hl
 go_enter Tryz.func106, Tryz.ntmps106
 go_upto_region 2 with (go_at_call 131; go_loud (refine (HL0.out _).mono ?_); rintro e w1 ⟨rfl, rfl⟩)
 generalize w.alloc (.cells #[.int .u8 ((uuL l.length).toNat : Int)] 5) = w1 at *
 go_loop [0] (fun x => ∃ (k : Nat) (t : ByteArray), k <= (3 - l.length % 3) % 3 ∧ x = .string t ∧ t.data.toList = l ++ List.replicate k 0) (fun x => match x with | .string t => 60 - t.size | _ => 0)
 case atStart => exact ⟨0, s, Nat.zero_le _, rfl, by rw [HSl.out]; simp⟩
 case round =>
  obtain ⟨k, t, hk, rfl, ht⟩ := hrel
  have htz : t.size = l.length + k := by rw [<- len_data, ht, List.length_append, List.length_replicate]
  have hzz := HZ.out
  have HT := Lib.hid ht
  clear ht
  by_cases h3 : t.size % 3 = 0
  ·have h3' : (t.size : Int) % 3 = 0 := by omega
   have hke : k = (3 - l.length % 3) % 3 := by omega
   have HP : Hid (t.data.toList = uuP l) := Lib.hid (by rw [HT.out, hke]; rfl)
   have HTz : Hid (t.size = (l.length + 2) / 3 * 3) := Lib.hid (by rw [<- len_data, HP.out, uuP_len])
   have ht47 : t.size <= 47 := by omega
   have HG := Lib.hid (uuG_pad l)
   obtain ⟨q, hq⟩ : ∃ q, uuP l = q := ⟨_, rfl⟩
   rw [hq] at HP HG
   have HQl : Hid (q.length = t.size) := Lib.hid (by rw [<- HP.out, len_data])
   clear hke hq HT
   go_upto_region 5 with fail
   go_loopw [3, 4] (fun v ii wr => ∃ (i : Nat) (out : List UInt8), i <= t.size ∧ i % 3 = 0 ∧ ii = .int .i64 (i : Int) ∧ out = uuL l.length :: uuG (q.take i) ∧ out.length <= 100 ∧ Own encU8 5 (fun g => w.heap.size <= g) wr v out ∧ Keeps NoB w wr) (fun _ i _ => 100 - (intOf i).toNat)
   case atStart => exact ⟨0, _, Nat.zero_le _, rfl, rfl, rfl, by rw [List.take_zero]; show 1 <= 100; decide, HOwn.out, HK1.out⟩
   case round =>
    rename_i wr
    obtain ⟨i, out, hj, hi3, rfl, hout, holn, hown, hkr⟩ := hrel
    have HO := Lib.hid hout
    have HW := Lib.hid hown
    have HKr := Lib.hid hkr
    clear hout hown hkr
    by_cases hlt : i < t.size
    ·have hi2 : i + 2 < t.size := by have := HTz.out; omega
     have hltI : (i : Int) < (l.length : Int) + (k : Int) := by omega
     have hltJ : (i : Int) < (t.size : Int) := by omega
     obtain ⟨a, ha⟩ : ∃ a, q[i]? = some a := ⟨_, List.getElem?_eq_getElem (by rw [HQl.out]; omega)⟩
     obtain ⟨b, hb⟩ : ∃ b, q[i + 1]? = some b := ⟨_, List.getElem?_eq_getElem (by rw [HQl.out]; omega)⟩
     obtain ⟨c, hc⟩ : ∃ c, q[i + 2]? = some c := ⟨_, List.getElem?_eq_getElem (by rw [HQl.out]; omega)⟩
     have HG3 := Lib.hid (uuG_three ha hb hc hi3)
     have x0 := fun wx => idx_str t i (i : Int) rfl a (by rw [HP.out]; exact ha) wx
     have x1 := fun wx => idx_str t (i + 1) ((i : Int) + 1) (by omega) b (by rw [HP.out]; exact hb) wx
     have x2 := fun wx => idx_str t (i + 2) ((i : Int) + 2) (by omega) c (by rw [HP.out]; exact hc) wx
     have ho := or3 a.toNat b.toNat c.toNat a.toNat_lt b.toNat_lt c.toNat_lt
     obtain ⟨N, hN⟩ : ∃ N, uuN a b c = N := ⟨_, rfl⟩
     have hNl := uuN_lt a b c
     rw [show a.toNat * 65536 + b.toNat * 256 + c.toNat = uuN a b c from rfl, hN] at ho
     rw [hN] at HG3 hNl
     have hA : (a.toNat : Int) < 256 := by have := a.toNat_lt; omega
     have hB : (b.toNat : Int) < 256 := by have := b.toNat_lt; omega
     have hC : (c.toNat : Int) < 256 := by have := c.toNat_lt; omega
     clear ha hb hc hN
     generalize a.toNat = an at *
     generalize b.toNat = bn at *
     generalize c.toNat = cn at *
     go_upto_region 7 with fail
     go_quiet (fail)
     go_upto_region 9 with fail
     have HKn := Lib.hid (HKr.out.drewN nq)
     have HWn := Lib.hid (HW.out.keep ((Keeps.refl NoB wr).drewN nq) (fun _ _ h => h))
     generalize wr.drewN nq = wn at *
     clear x0 x1 x2 ho hA hB hC
     go_loopw [3, 6] (fun v kk wi => ∃ (m : Nat) (o2 : List UInt8), m <= 4 ∧ kk = .int .i64 (3 - (m : Int)) ∧ o2 = out ++ (uu4 N).take m ∧ Own encU8 5 (fun g => w.heap.size <= g) wi v o2 ∧ Keeps NoB w wi) (fun _ kk _ => ((intOf kk) + 1).toNat)
     case atStart => exact ⟨0, _, Nat.zero_le _, rfl, by simp, HWn.out, HKn.out⟩
     case round =>
      rename World => wi
      obtain ⟨m, o2, hm, rfl, ho2, hown2, hki⟩ := hrel
      have HO2 := Lib.hid ho2
      have HW2 := Lib.hid hown2
      have HKi := Lib.hid hki
      have hl2 : o2.length <= 104 := by
       rw [ho2, List.length_append]
       have : ((uu4 N).take m).length <= 4 := by rw [List.length_take]; exact Nat.min_le_right _ _
       omega
      have hzw := hki.size
      clear ho2 hown2 hki
      rcases (show m = 0 ∨ m = 1 ∨ m = 2 ∨ m = 3 ∨ m = 4 by omega) with rfl | rfl | rfl | rfl | rfl
      ·simp only [show (3 : Int) - ((0 : Nat) : Int) = 3 by rfl]
       have hd : (N : Int) / 262144 = ((N / 262144 : Nat) : Int) := by omega
       have ha := and63 (N / 262144) (by omega)
       have hlt6 : N / 262144 % 64 < 64 := Nat.mod_lt _ (by decide)
       have hle6 : ((N / 262144 % 64 : Nat) : Int) < 64 := by omega
       have HLt := Lib.hid (fun w1 : World => HL.out (N / 262144 % 64) hlt6 w1)
       have HT4 : Hid (out ++ (uu4 N).take 1 = o2 ++ [uuL (N / 262144 % 64)]) := Lib.hid (by rw [HO2.out]; simp [uu4])
       generalize N / 262144 % 64 = y at *
       generalize N / 262144 = z at *
       go_wp2_with (first | (go_at_call 131; go_loud (refine (HLt.out _).mono ?_); rintro e w3 ⟨rfl, rfl⟩) | (at_builtin; go_loud (refine wpl_append rfl (.tmp 46) (.tmp 54) rfl tU8 (HW2.out.keep ((Keeps.refl NoB wi).alloc _) (fun _ _ h => h)) (own_lit (E := encU8) (e := 5) (w := wi) (S := fun _ => True) [uuL y] #[.int .u8 ((uuL y).toNat : Int)] rfl 1 rfl trivial (by decide)).sl rfl rfl (by simp; omega) (by simp [maxLen]; omega) (by simp; omega) ?_)))
       intro v' w4 ho4 hk4 hf4
       go_wp2_with fail
       go_roundw
       case rel => exact ⟨1, o2 ++ [uuL y], by omega, by go_num, HT4.out.symm, ho4, (HKi.out.alloc _).step hk4 (fun g hg => .inr (HW2.out.2 g hg))⟩
       case measure => simp [intOf]
      ·simp only [show (3 : Int) - ((1 : Nat) : Int) = 2 by rfl]
       have hd : (N : Int) / 4096 = ((N / 4096 : Nat) : Int) := by omega
       have ha := and63 (N / 4096) (by omega)
       have hlt6 : N / 4096 % 64 < 64 := Nat.mod_lt _ (by decide)
       have hle6 : ((N / 4096 % 64 : Nat) : Int) < 64 := by omega
       have HLt := Lib.hid (fun w1 : World => HL.out (N / 4096 % 64) hlt6 w1)
       have HT4 : Hid (out ++ (uu4 N).take 2 = o2 ++ [uuL (N / 4096 % 64)]) := Lib.hid (by rw [HO2.out]; simp [uu4])
       generalize N / 4096 % 64 = y at *
       generalize N / 4096 = z at *
       go_wp2_with (first | (go_at_call 131; go_loud (refine (HLt.out _).mono ?_); rintro e w3 ⟨rfl, rfl⟩) | (at_builtin; go_loud (refine wpl_append rfl (.tmp 46) (.tmp 54) rfl tU8 (HW2.out.keep ((Keeps.refl NoB wi).alloc _) (fun _ _ h => h)) (own_lit (E := encU8) (e := 5) (w := wi) (S := fun _ => True) [uuL y] #[.int .u8 ((uuL y).toNat : Int)] rfl 1 rfl trivial (by decide)).sl rfl rfl (by simp; omega) (by simp [maxLen]; omega) (by simp; omega) ?_)))
       intro v' w4 ho4 hk4 hf4
       go_wp2_with fail
       go_roundw
       case rel => exact ⟨2, o2 ++ [uuL y], by omega, by go_num, HT4.out.symm, ho4, (HKi.out.alloc _).step hk4 (fun g hg => .inr (HW2.out.2 g hg))⟩
       case measure => simp [intOf]
      ·simp only [show (3 : Int) - ((2 : Nat) : Int) = 1 by rfl]
       have hd : (N : Int) / 64 = ((N / 64 : Nat) : Int) := by omega
       have ha := and63 (N / 64) (by omega)
       have hlt6 : N / 64 % 64 < 64 := Nat.mod_lt _ (by decide)
       have hle6 : ((N / 64 % 64 : Nat) : Int) < 64 := by omega
       have HLt := Lib.hid (fun w1 : World => HL.out (N / 64 % 64) hlt6 w1)
       have HT4 : Hid (out ++ (uu4 N).take 3 = o2 ++ [uuL (N / 64 % 64)]) := Lib.hid (by rw [HO2.out]; simp [uu4])
       generalize N / 64 % 64 = y at *
       generalize N / 64 = z at *
       go_wp2_with (first | (go_at_call 131; go_loud (refine (HLt.out _).mono ?_); rintro e w3 ⟨rfl, rfl⟩) | (at_builtin; go_loud (refine wpl_append rfl (.tmp 46) (.tmp 54) rfl tU8 (HW2.out.keep ((Keeps.refl NoB wi).alloc _) (fun _ _ h => h)) (own_lit (E := encU8) (e := 5) (w := wi) (S := fun _ => True) [uuL y] #[.int .u8 ((uuL y).toNat : Int)] rfl 1 rfl trivial (by decide)).sl rfl rfl (by simp; omega) (by simp [maxLen]; omega) (by simp; omega) ?_)))
       intro v' w4 ho4 hk4 hf4
       go_wp2_with fail
       go_roundw
       case rel => exact ⟨3, o2 ++ [uuL y], by omega, by go_num, HT4.out.symm, ho4, (HKi.out.alloc _).step hk4 (fun g hg => .inr (HW2.out.2 g hg))⟩
       case measure => simp [intOf]
      ·simp only [show (3 : Int) - ((3 : Nat) : Int) = 0 by rfl]
       have hd : (N : Int) / 1 = ((N : Nat) : Int) := by omega
       have ha := and63 (N) (by omega)
       have hlt6 : N % 64 < 64 := Nat.mod_lt _ (by decide)
       have hle6 : ((N % 64 : Nat) : Int) < 64 := by omega
       have HLt := Lib.hid (fun w1 : World => HL.out (N % 64) hlt6 w1)
       have HT4 : Hid (out ++ (uu4 N).take 4 = o2 ++ [uuL (N % 64)]) := Lib.hid (by rw [HO2.out]; simp [uu4])
       generalize N % 64 = y at *
       go_wp2_with (first | (go_at_call 131; go_loud (refine (HLt.out _).mono ?_); rintro e w3 ⟨rfl, rfl⟩) | (at_builtin; go_loud (refine wpl_append rfl (.tmp 46) (.tmp 54) rfl tU8 (HW2.out.keep ((Keeps.refl NoB wi).alloc _) (fun _ _ h => h)) (own_lit (E := encU8) (e := 5) (w := wi) (S := fun _ => True) [uuL y] #[.int .u8 ((uuL y).toNat : Int)] rfl 1 rfl trivial (by decide)).sl rfl rfl (by simp; omega) (by simp [maxLen]; omega) (by simp; omega) ?_)))
       intro v' w4 ho4 hk4 hf4
       go_wp2_with fail
       go_roundw
       case rel => exact ⟨4, o2 ++ [uuL y], by omega, by go_num, HT4.out.symm, ho4, (HKi.out.alloc _).step hk4 (fun g hg => .inr (HW2.out.2 g hg))⟩
       case measure => simp [intOf]
      ·simp only [show (3 : Int) - ((4 : Nat) : Int) = -1 by rfl]
       have HEq : Hid (o2 = uuL l.length :: uuG (q.take (i + 3))) := Lib.hid (by rw [HO2.out, HO.out, HG3.out]; simp [uu4])
       have hl3 : (uuG (q.take (i + 3))).length <= 90 := by rw [uuG_len, List.length_take]; omega
       have hl4 : o2.length <= 100 := by rw [HEq.out, List.length_cons]; omega
       go_wp2_with fail
       go_roundw
       case rel => exact ⟨i + 3, o2, by omega, by omega, by go_num, HEq.out, hl4, HW2.out, HKi.out⟩
       case measure => (simp [intOf]) <;> omega
    ·obtain rfl : i = t.size := by omega
     have hq : q.take t.size = q := List.take_of_length_le (by rw [HQl.out]; exact Nat.le_refl _)
     have HOe : Hid (out ++ [10] = uuL l.length :: (uuG l ++ [10])) := Lib.hid (by rw [HO.out, hq, HG.out]; rfl)
     have hzw := HKr.out.size
     clear hq
     go_wp2_with (at_builtin; go_loud (refine wpl_append rfl (.tmp 56) (.tmp 57) rfl tU8 (HW.out.keep ((Keeps.refl NoB wr).alloc _) (fun _ _ h => h)) (own_lit (E := encU8) (e := 5) (w := wr) (S := fun _ => True) [10] #[.int .u8 10] rfl 1 rfl trivial (by decide)).sl rfl rfl (by simp; omega) (by simp [maxLen]; omega) (by simp; omega) ?_))
     intro v' w2 ho2 hk2 hf2
     have hcv := own_str ho2
     rw [HOe.out] at hcv
     go_wp2_with fail
     go_ret
     exact ⟨rfl, (HKr.out.alloc _).step hk2 (fun g hg => .inr (HW.out.2 g hg))⟩
  ·have h3' : ¬ (t.size : Int) % 3 = 0 := by omega
   have ht47 : t.size <= 47 := by omega
   have hq : ¬ 9223372036854775807 < t.size + 1 := by omega
   go_wp2
   go_round
   case rel => exact ⟨k + 1, _, by omega, rfl, by rw [ByteArray.data_append, Array.toList_append, HT.out, List.replicate_succ', <- List.append_assoc]⟩
   case measure =>
    show 60 - (t ++ ⟨#[0]⟩ : ByteArray).size < 60 - t.size
    rw [ByteArray.size_append, show (⟨#[0]⟩ : ByteArray).size = 1 from rfl]
    omega
end Go.Proofs.YtonkgdoaobojbaaGreatDoor
namespace Go.Proofs.YtonkgdoaobojbaaGreatDoor
open Go Go.Shelf Go.RowKit
def lays221_ren : Go.Shelf.Ren :=
{
 f := fun x =>
   match x with
   | 221 => 145
   | 268 => 163
   | 138 => 164
   | 143 => 165
   | 195 => 183
   | 197 => 178
   | 218 => 184
   | 219 => 133
   | 260 => 192
   | 217 => 130
   | 225 => 151
   | 224 => 152
   | 267 => 153
   | 266 => 150
   | 314 => 169
   | n => n,
 t := fun x =>
   match x with
   | 9 => 9
   | 3 => 3
   | 31 => 51
   | 4 => 4
   | 0 => 0
   | 105 => 195
   | 21 => 21
   | 5 => 5
   | 46 => 128
   | 119 => 227
   | 139 => 230
   | 138 => 229
   | 146 => 198
   | 51 => 56
   | n => n,
 g := fun x =>
   match x with
   | 1 => 1
   | 3 => 8
   | 4 => 9
   | n => n }
theorem lays221 : Lays.n221 Tryz.prog lays221_ren :=
{ mixed := Eq.refl true, f138 := Eq.trans Tryz.func164 (congrArg some (Eq.refl (Body.n138 lays221_ren))),
  f143 := Eq.trans Tryz.func165 (congrArg some (Eq.refl (Body.n143 lays221_ren))),
  f195 := Eq.trans Tryz.func183 (congrArg some (Eq.refl (Body.n195 lays221_ren))),
  f197 := Eq.trans Tryz.func178 (congrArg some (Eq.refl (Body.n197 lays221_ren))),
  f217 := Eq.trans Tryz.func130 (congrArg some (Eq.refl (Body.n217 lays221_ren))),
  f218 := Eq.trans Tryz.func184 (congrArg some (Eq.refl (Body.n218 lays221_ren))),
  f219 := Eq.trans Tryz.func133 (congrArg some (Eq.refl (Body.n219 lays221_ren))),
  f221 := Eq.trans Tryz.func145 (congrArg some (Eq.refl (Body.n221 lays221_ren))),
  f224 := Eq.trans Tryz.func152 (congrArg some (Eq.refl (Body.n224 lays221_ren))),
  f225 := Eq.trans Tryz.func151 (congrArg some (Eq.refl (Body.n225 lays221_ren))),
  f260 := Eq.trans Tryz.func192 (congrArg some (Eq.refl (Body.n260 lays221_ren))),
  f266 := Eq.trans Tryz.func150 (congrArg some (Eq.refl (Body.n266 lays221_ren))),
  f267 := Eq.trans Tryz.func153 (congrArg some (Eq.refl (Body.n267 lays221_ren))),
  f268 := Eq.trans Tryz.func163 (congrArg some (Eq.refl (Body.n268 lays221_ren))),
  f314 := Eq.trans Tryz.func169 (congrArg some (Eq.refl (Body.n314 lays221_ren))), t0 := Tryz.underlying0,
  a0 := Tryz.isAgg0, z0 := Tryz.sizeOf0, v0 := Tryz.zeroValue0, t3 := Tryz.underlying3, a3 := Tryz.isAgg3,
  z3 := Tryz.sizeOf3, v3 := Tryz.zeroValue3, t4 := Tryz.underlying4, a4 := Tryz.isAgg4, z4 := Tryz.sizeOf4,
  v4 := Tryz.zeroValue4, t5 := Tryz.underlying5, a5 := Tryz.isAgg5, z5 := Tryz.sizeOf5, v5 := Tryz.zeroValue5,
  t9 := Tryz.underlying9, a9 := Tryz.isAgg9, z9 := Tryz.sizeOf9, v9 := Tryz.zeroValue9, t21 := Tryz.underlying21,
  a21 := Tryz.isAgg21, z21 := Tryz.sizeOf21, v21 := Tryz.zeroValue21, t31 := Tryz.underlying51, a31 := Tryz.isAgg51,
  z31 := Tryz.sizeOf51, v31 := Tryz.zeroValue51, t46 := Tryz.underlying128, a46 := Tryz.isAgg128, z46 := Tryz.sizeOf128,
  v46 := Tryz.zeroValue128, t51 := Tryz.underlying56, a51 := Tryz.isAgg56, z51 := Tryz.sizeOf56,
  v51 := Tryz.zeroValue56, t105 := Tryz.underlying195, a105 := Tryz.isAgg195, z105 := Tryz.sizeOf195,
  v105 := Tryz.zeroValue195, t119 := Tryz.underlying227, a119 := Tryz.isAgg227, z119 := Tryz.sizeOf227,
  t138 := Tryz.underlying229, a138 := Tryz.isAgg229, z138 := Tryz.sizeOf229, v138 := Tryz.zeroValue229,
  t139 := Tryz.underlying230, a139 := Tryz.isAgg230, z139 := Tryz.sizeOf230, v139 := Tryz.zeroValue230,
  t146 := Tryz.underlying198, a146 := Tryz.isAgg198, z146 := Tryz.sizeOf198, v146 := Tryz.zeroValue198,
  g1 := by kernel_rfl, g3 := by kernel_rfl,
  g4 := by kernel_rfl }
end Go.Proofs.YtonkgdoaobojbaaGreatDoor
namespace Go.Proofs.YtonkgdoaobojbaaGreatDoor
open Go.RowKit
theorem ElemT.of {α : Type} {P : Program} {E : Enc α} {t e : TypeId} {z : α} {bytes : Nat} (zv : Value) (hu : P.underlying t = some (.slice e))
 (h : (P.info? e).map (fun i => (i.zero, i.size, i.bytes)) = some (some zv, E.k, bytes)) (hz : zv.cells.toList = E.enc z) : ElemT P E t e z bytes := by
 refine ⟨hu, ?_⟩
 cases hi : P.info? e with
 | none => rw [hi] at h; cases h
 | some i => rw [hi] at h; simp at h; exact ⟨i, rfl, h.2.1, h.2.2, zv, h.1, hz⟩
end Go.Proofs.YtonkgdoaobojbaaGreatDoor
namespace Go.Proofs.YtonkgdoaobojbaaGreatDoor
open Go Go.RowKit
theorem tStr : ElemT Tryz.prog encStr 51 9 ByteArray.empty 16 :=
 .of (.string ByteArray.empty) Tryz.underlying51 (by kernel_rfl) rfl
theorem isEmpty_eq (x : ByteArray) : x.toList.isEmpty = decide (x = ⟨#[]⟩) := by
 rw [Lib.toList_data, Bool.eq_iff_iff, List.isEmpty_iff, decide_eq_true_eq]
 exact ⟨fun h => eq_of_data (by rw [h]), fun h => by rw [h]⟩
theorem notEmpty_eq {x : ByteArray} (h : ¬ x = ⟨#[]⟩) : (!x.toList.isEmpty) = true := by rw [isEmpty_eq]; simpa using h
set_option maxHeartbeats 1000000 in
theorem slIndex1 (s : ByteArray) (w : World) :
 Calls Tryz.prog 133 #[.string s, .string slashB] w fun e w' => e = .returned (.int .i64 (bIdx s 47)) ∧ w' = w := by
 go_enter Tryz.func133, Tryz.ntmps133
 go_wp2
 ·go_ret
  refine ⟨ret_i64 ?_, rfl⟩
  have h : ([47] == s.toList) = true := by assumption
  rw [Lib.toList_data, beq_iff_eq] at h
  rw [bIdx, <- h]
  rfl
 ·rw [run_callFunc_extern Tryz.func150 (by kernel_rfl) (by kernel_rfl) (by kernel_rfl) (e := Extern.BytealgIndexByte.indexByte) (by kernel_rfl), run_indexByte_string]
  simp only [Result.andThen, Lib.firstIdx_eq]
  rw [Oper.upon_value]
  go_wp2
  go_ret
  exact ⟨rfl, rfl⟩
set_option maxHeartbeats 400000 in
theorem strIndex1 (s : ByteArray) (w : World) :
 Calls Tryz.prog 165 #[.string s, .string slashB] w fun e w' => e = .returned (.int .i64 (bIdx s 47)) ∧ w' = w := by
 go_enter Tryz.func165, Tryz.ntmps165
 go_wp2_with (go_at_call 133; refine (slIndex1 _ _).mono ?_; rintro e w' ⟨rfl, rfl⟩)
 go_ret
 exact ⟨rfl, rfl⟩
theorem bIdx_none {s : ByteArray} {c : UInt8} (h : bIdx s c = -1) (j : Nat) (hj : j < s.size) : ¬ s[j] = c := fun e =>
 Lib.indexByte_none h j (by rw [List.getElem?_eq_getElem (by rw [len_data]; exact hj)]; exact congrArg some e)
theorem bIdx_some {s : ByteArray} {c : UInt8} {o : Nat} (h : bIdx s c = o) : ∃ ho : o < s.size, s[o] = c ∧ ∀ (j : Nat) (hj : j < s.size), j < o -> ¬ s[j] = c := by
 obtain ⟨h1, h2⟩ := Lib.indexByte_some h
 obtain ⟨h3, h4⟩ := List.getElem?_eq_some_iff.1 h1
 rw [len_data] at h3
 exact ⟨h3, h4, fun j hj hlt e => h2 j hlt (by rw [List.getElem?_eq_getElem (by rw [len_data]; exact hj)]; exact congrArg some e)⟩
theorem bIdx_cases (s : ByteArray) (c : UInt8) : bIdx s c = -1 ∨ ∃ o : Nat, bIdx s c = o := by
 have := Lib.indexByte_ge s.data.toList c
 unfold bIdx
 by_cases h : Lib.indexByte s.data.toList c = -1
 ·exact .inl h
 ·exact .inr ⟨(Lib.indexByte s.data.toList c).toNat, by omega⟩
theorem indexB_slash (s : ByteArray) : Lib.indexB s slashB = bIdx s 47 := Lib.index_one _ _
theorem splitB_pcs : ∀ (k : Nat) (s : ByteArray), Lib.countB s slashB = k -> Lib.splitB slashB 0 k s = pcs s
 | 0, s, hk => by
   rw [Lib.splitB_zero]
   have := pcs_none s 0 (Nat.zero_le _) (fun j hj _ e => by
    have h1 : Lib.countB s slashB = s.data.toList.count 47 := Lib.count_one _ _
    rw [hk] at h1
    have := List.count_eq_zero.1 h1.symm
    exact this (List.mem_iff_getElem.2 ⟨j, by rw [len_data]; exact hj, e⟩))
   rw [extract_all] at this
   exact this.symm
 | k + 1, s, hk => by
   rcases Lib.indexB_cases s slashB with hix | ⟨i, hix, _⟩
   ·rw [Lib.countB_miss s slashB hix] at hk; omega
   ·rw [Lib.splitB_hit slashB 0 k s i hix]
    have h2 := Lib.countB_hit s slashB i (by decide) hix
    rw [splitB_pcs k _ (by omega)]
    rw [indexB_slash] at hix
    obtain ⟨ho, h3, h4⟩ := bIdx_some hix
    have := pcs_cut s 0 i (Nat.zero_le _) ho h3 (fun j hj _ h => h4 j hj h)
    rw [extract_all] at this
    rw [this]
    rfl
set_option maxHeartbeats 1000000 in
theorem split_any (s : ByteArray) (w : World) (hs : s.size < 4294967281) :
 Calls Tryz.prog 126 #[.string s, .string slashB] w fun e w' =>
  ∃ v, e = .returned v ∧ Own encStr 9 (fun g => w.heap.size <= g) w' v (pcs s) ∧ Keeps NoB w w' := by
 have hlen := Lib.splitB_all slashB (by decide) 0 _ s rfl
 have hle := Lib.countB_le slashB (by decide) s.size s (Nat.le_refl _)
 have c := Any.strings_genSplit_core lays221 (by kernel_rfl) s slashB 0 (-1) (Lib.countB s slashB + 1) w hs (by decide) (Nat.zero_le _)
  (fun x c hx => by
    refine (strIndex1 x _).mono ?_
    rintro e w' ⟨rfl, rfl⟩
    exact ⟨by rw [indexB_slash], rfl⟩)
  (by
    refine (Any.strings_Count_one { lays221 with } s 47 w).mono ?_
    rintro e w' ⟨rfl, rfl⟩
    refine ⟨?_, rfl⟩
    show Ending.returned (Value.int .i64 ((s.data.toList.count 47 : Nat) : Int)) = Ending.returned (Value.int .i64 ((Lib.count s.data.toList [47] : Nat) : Int))
    rw [Lib.count_one])
  (by decide) (by decide) (by rw [if_pos (by decide)]; omega)
 rw [Nat.add_sub_cancel, splitB_pcs _ s rfl] at c
 rw [splitB_pcs _ s rfl] at hlen
 rw [<- hlen, Lib.cellsOf_full] at c
 have C := Lib.hid c
 clear c
 have hpl : (pcs s).length <= maxLen := by rw [hlen]; unfold maxLen; omega
 have Hp := Lib.hid hpl
 clear hpl hlen hle
 go_enter Tryz.func126, Tryz.ntmps126
 go_wp2_with (go_at_call 145; refine C.out.mono ?_; rintro e w' ⟨rfl, rfl⟩)
 go_ret
 refine ⟨_, rfl, own_lit (pcs s) _ ?_ _ rfl (Nat.le_refl _) Hp.out, (Keeps.refl _ _).alloc _⟩
 rw [List.toList_toArray]
 generalize pcs s = l
 induction l with
 | nil => rfl
 | cons a l ih => rw [List.map_cons, List.flatMap_cons, ih]; rfl
end Go.Proofs.YtonkgdoaobojbaaGreatDoor
