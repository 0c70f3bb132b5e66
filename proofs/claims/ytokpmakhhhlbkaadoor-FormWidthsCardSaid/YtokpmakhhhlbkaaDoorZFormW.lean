/-
  Layer 10: contracts: String of a Builder, plain, Escape, Escaped.
-/
import Derived.Test.YtokpmakhhhlbkaaDoorZFormB
import Derived.Test.YtokpmakhhhlbkaaDoorZFormM
import Derived.Test.YtokpmakhhhlbkaaDoorB04
import Derived.Lib.ConvBytes
import Derived.Laws.IdiomStrings

set_option linter.unusedSimpArgs false
set_option linter.unusedVariables false

set_option maxRecDepth 100000
set_option maxHeartbeats 4000000
namespace Go.Proofs.YtokpmakhhhlbkaaDoor
open Go Go.RowKit

theorem extra169 : Builder.Extra Tryd.prog lays169_ren where
  sizeBuilder := by kernel_rfl
  liesBuilder := by kernel_rfl
  t5 := Tryd.underlying5
  a5 := Tryd.isAgg5
  z5 := Tryd.sizeOf5
  v5 := Tryd.zeroValue5
  infoByte := by kernel_rfl
  cellsByte := by kernel_rfl
  sizeByte := by kernel_rfl
  neB5 := by decide

theorem enc_cells (l : List UInt8) : Lib.byteCells l = l.flatMap encU8.enc := by
  unfold Lib.byteCells encU8
  induction l with
  | nil => rfl
  | cons a l ih => simp [List.flatMap_cons, ih]

theorem sbString_any {S : Nat → Prop} {w : World} {b B : Nat} {s : List UInt8} (h : BA S w b s) (hS : ∀ g, S g → B ≤ g) (hb : B ≤ b) (hBw : B ≤ w.heap.size) :
    Calls Tryd.prog 17 #[.pointer (some ⟨b, 0, none⟩)] w fun e w' => e = .returned (.string ⟨s.toArray⟩) ∧ Keeps (fun g => B ≤ g) w w' := by
  obtain ⟨p, v, h1, h2, h3⟩ := h.ex
  have hI : Lib.IsBuilder 37 5 B b (Lib.byteCells s) w := by
    have hA : Lib.BuilderAt 37 5 B b p (Lib.byteCells s) w := by
      refine ⟨hb, v, h1, ?_, fun e => h.nS (h3.2 b e)⟩
      have h4 := h3.1
      rw [Lib.byteCells_length, enc_cells]
      refine ⟨h4.1, h4.2.imp id ?_⟩
      rintro ⟨g, cap, cur, hv, hg, r⟩
      exact ⟨g, cap, cur, hv, hS g (h3.2 g (by rw [hv]; rfl)), r⟩
    rcases h2 with rfl | rfl
    · exact .inl hA
    · exact .inr hA
  refine (Any.Builder_String_any lays169 extra169 B b s w hI hBw).mono ?_
  rintro e w' ⟨rfl, k⟩
  exact ⟨rfl, k.os, k.tape, k.output, k.size, fun i hi hn => k.block i (by omega)⟩

theorem plain_any (z : Int) (w : World) : Calls Tryd.prog 14 #[.int .u8 z] w fun e w' => e = .returned (.bool (plnB z)) ∧ w = w' := by
  go_enter Tryd.func14, Tryd.ntmps14
  go_wp2
  all_goals
    go_ret
    refine ⟨ret_bool ?_, rfl⟩
    unfold plnB
    first | (simp [*]; done) | (simp [*]; omega) | (by_cases h39 : z = 39 <;> simp [*])


/-- A row of bytes that is read, one by one. -/
theorem oc_facts (c : UInt8) : IntKind.u8.wrap ((c.toNat : Int)) = (c.toNat : Int) := by
  have := c.toNat_lt
  show ((c.toNat : Int)) % 256 = _
  omega

/-- The row that []byte(s) lays. -/
theorem conv_sl (w : World) (s : ByteArray) (hs : s.size ≤ maxLen) :
    SlAt encU8 (fun g => g = w.heap.size) (Lib.bytesWorld w 5 s) (some ⟨w.heap.size, 0, none⟩) (grownCap w s.size 0 5) s.data.toList ∧ Keeps NoB w (Lib.bytesWorld w 5 s) := by
  have hge : s.size ≤ grownCap w s.size 0 5 := grownCap_ge w s.size 0 5
  have hle := grownCap_le_maxLen w s.size 0 5 hs
  have hsize := Lib.bytesWorld_size w 5 s
  have hl : s.data.toList.length = s.size := len_data s
  refine ⟨⟨by rw [hl]; exact hge, hle, (fun h => by cases h), (fun _ a ha => by cases ha; rfl), fun _ => ⟨w.heap.size, 0, rfl, rfl, by rw [hsize]; omega, fun j hj => ?_⟩⟩, ?_⟩
  · have hj2 : j < s.data.toList.length := by simpa [encU8] using hj
    rw [Nat.zero_add, Lib.bytesWorld_cell w 5 s j hj2]
    have := Enc.flat_get encU8 s.data.toList j 0 (by decide)
    simp only [show encU8.k = 1 from rfl, Nat.mul_one, Nat.add_zero] at this
    rw [this, List.getElem?_eq_getElem hj2]
    simp [List.getD, List.getElem?_eq_getElem hj2, encU8]
  · refine ⟨?_, ?_, ?_, by omega, fun k hk _ => Lib.bytesWorld_at_old w 5 s k hk⟩
    · simp [Lib.bytesWorld, World.freeze]; rfl
    · simp [Lib.bytesWorld, World.freeze]
    · simp [Lib.bytesWorld, World.freeze]; rfl

/-- The three octal digits, as the program reckons them. -/
theorem oct_fin : ∀ n : Fin 256, (48 + (n.val : Int) / 64) % 256 = ((48 + UInt8.ofNat n.val / 64).toNat : Int) ∧ (48 + bits BinOp.and IntKind.u8 ((n.val : Int) / 8) 7) % 256 = ((48 + UInt8.ofNat n.val / 8 % 8).toNat : Int) ∧ (48 + bits BinOp.and IntKind.u8 (n.val : Int) 7) % 256 = ((48 + UInt8.ofNat n.val % 8).toNat : Int) := by decide +kernel
theorem oct_cells (c : UInt8) : (48 + (c.toNat : Int) / 64) % 256 = ((48 + c / 64).toNat : Int) ∧ (48 + bits BinOp.and IntKind.u8 ((c.toNat : Int) / 8) 7) % 256 = ((48 + c / 8 % 8).toNat : Int) ∧ (48 + bits BinOp.and IntKind.u8 (c.toNat : Int) 7) % 256 = ((48 + c % 8).toNat : Int) := by
  have := oct_fin ⟨c.toNat, c.toNat_lt⟩
  simpa using this

theorem fEscape_any (s : ByteArray) (w : World) (hs : s.size ≤ 1000000000) :
    Calls Tryd.prog 9 #[.string s] w fun e w' => e = .returned (.string ⟨(escL s.data.toList).toArray⟩) ∧ Keeps NoB w w' := by
  have hconv := fun wx => Lib.run_convert_string_bytes (P := Tryd.prog) wx 9 23 5 s Tryd.underlying9 Tryd.underlying23 Tryd.underlying5
  obtain ⟨l, hls⟩ : ∃ l, s.data.toList = l := ⟨_, rfl⟩
  have hl : l.length = s.size := by rw [← hls]; exact len_data s
  rw [hls]
  have HLS := Lib.hid hls
  clear hls
  go_enter Tryd.func9, Tryd.ntmps9
  go_upto_region 2 with fail
  have HB0 := Lib.hid (BA.new (S := fun g => w.heap.size + 1 < g) w (by omega))
  have HK0 := Lib.hid ((Keeps.refl NoB w).alloc (.cells #[.pointer none, .slice none 0 0] 37))
  have hz0 : (w.alloc (.cells #[.pointer none, .slice none 0 0] 37)).heap.size = w.heap.size + 1 := by simp
  go_upto_region 3 with fail
  generalize w.alloc (.cells #[.pointer none, .slice none 0 0] 37) = w1 at *
  obtain ⟨hsl, hkc⟩ := conv_sl w1 s (by unfold maxLen; omega)
  rw [HLS.out] at hsl
  have hsz2 : (Lib.bytesWorld w1 5 s).heap.size = w.heap.size + 2 := by rw [Lib.bytesWorld_size, hz0]
  rw [hz0] at hsl
  have HJ0 : Hid (BA (fun g => w.heap.size + 1 < g) (Lib.bytesWorld w1 5 s) w.heap.size (escL (l.take 0)) ∧ SlAt encU8 (fun g => g = w.heap.size + 1) (Lib.bytesWorld w1 5 s) (some ⟨w.heap.size + 1, 0, none⟩) (grownCap w1 s.size 0 5) l ∧ Keeps NoB w (Lib.bytesWorld w1 5 s) ∧ w.heap.size + 2 ≤ (Lib.bytesWorld w1 5 s).heap.size) := ⟨HB0.out.on hkc, hsl, HK0.out.trans hkc, by omega⟩
  clear hconv HB0 HK0 hkc hsl hz0 hsz2
  generalize grownCap w1 s.size 0 5 = cp at *
  generalize Lib.bytesWorld w1 5 s = w2 at *
  rw [← hl] at hs ⊢
  clear hl HLS
  go_wp2_with fail
  go_loopw [9] (fun i wr => ∃ k : Nat, k ≤ l.length ∧ i = .int .i64 k ∧ BA (fun g => w.heap.size + 1 < g) wr w.heap.size (escL (l.take k)) ∧ SlAt encU8 (fun g => g = w.heap.size + 1) wr (some ⟨w.heap.size + 1, 0, none⟩) cp l ∧ Keeps NoB w wr ∧ w.heap.size + 2 ≤ wr.heap.size) (fun i _ => l.length + 1 - (intOf i).toNat)
  case atStart => exact ⟨0, Nat.zero_le _, rfl, HJ0.out.1, HJ0.out.2.1, HJ0.out.2.2.1, HJ0.out.2.2.2⟩
  case round =>
    obtain ⟨k, hk, rfl, hB, hL, hK, hsz⟩ := hrel
    have HB := Lib.hid hB
    have HL := Lib.hid hL
    have HK := Lib.hid hK
    clear hB hL hK HJ0
    have hcap := HL.out.cap
    have hmx := HL.out.max
    unfold maxLen at hmx
    have hle := escL_le (l.take k)
    have hlt' : (l.take k).length ≤ k := List.length_take_le _ _
    by_cases hlt : k < l.length
    · obtain ⟨c, hc⟩ : ∃ c, l[k]? = some c := ⟨_, List.getElem?_eq_getElem hlt⟩
      have t0 : wr.cell? ⟨w.heap.size + 1, k, none⟩ = some (.int .u8 (c.toNat : Int)) := by
        obtain ⟨g, off, e, _, _, hcc⟩ := HL.out.at hc
        cases e
        have := hcc 0 _ rfl
        simpa [encU8] using this
      have hnx := Lib.hid (take_next hc)
      have hpl := Lib.hid (plain_any (c.toNat : Int))
      have hwr := oc_facts c
      have hS : ∀ g, wr.heap.size ≤ g → w.heap.size + 1 < g := fun g hg => by omega
      have HS := Lib.hid hS
      clear hS hc
      by_cases hp : plnB (c.toNat : Int) = true
      · have HW := Lib.hid (sbWriteByte_any HB.out HS.out c (by omega))
        rw [hp] at hpl
        have HE := Lib.hid (show escL (l.take (k + 1)) = escL (l.take k) ++ [c] by rw [hnx.out, escL_snoc]; unfold escC plnC; rw [if_pos hp])
        clear hp
        go_wp2_with (first | (go_at_call 14; go_loud (refine (hpl.out _).mono ?_); rintro e w3 ⟨rfl, rfl⟩) | (go_at_call 15; go_loud (refine HW.out.mono ?_); rintro e w4 ⟨rfl, hB4, hk4⟩))
        go_roundw
        case rel => exact ⟨k + 1, by omega, by go_num, by rw [HE.out]; exact hB4, HL.out.keep hk4 (fun g hg _ h => by omega), HK.out.step hk4 (fun g hg => by omega), by have := hk4.size; omega⟩
        case measure => simp [intOf]; omega
      · have hp2 : plnB (c.toNat : Int) = false := by simpa using hp
        rw [hp2] at hpl
        clear hp
        obtain ⟨e1, e2, e3⟩ := oct_cells c
        have HE := Lib.hid (show escL (l.take (k + 1)) = escL (l.take k) ++ [92, 48 + c / 64, 48 + c / 8 % 8, 48 + c % 8] by rw [hnx.out, escL_snoc]; unfold escC plnC; rw [if_neg (by rw [hp2]; simp)])
        have ka : Keeps NoB wr (wr.alloc (.cells #[.int .u8 92, .int .u8 ((48 + (c.toNat : Int) / 64) % 256), .int .u8 ((48 + bits BinOp.and IntKind.u8 ((c.toNat : Int) / 8) 7) % 256), .int .u8 ((48 + bits BinOp.and IntKind.u8 (c.toNat : Int) 7) % 256)] 5)) := (Keeps.refl _ _).alloc _
        have hlit := (own_lit (E := encU8) (e := 5) (w := wr) (S := fun g => g = wr.heap.size) [92, 48 + c / 64, 48 + c / 8 % 8, 48 + c % 8] #[.int .u8 92, .int .u8 ((48 + (c.toNat : Int) / 64) % 256), .int .u8 ((48 + bits BinOp.and IntKind.u8 ((c.toNat : Int) / 8) 7) % 256), .int .u8 ((48 + bits BinOp.and IntKind.u8 (c.toNat : Int) 7) % 256)] (by rw [e1, e2, e3]; rfl) 4 rfl rfl (by decide)).at
        have hsa : (wr.alloc (.cells #[.int .u8 92, .int .u8 ((48 + (c.toNat : Int) / 64) % 256), .int .u8 ((48 + bits BinOp.and IntKind.u8 ((c.toNat : Int) / 8) 7) % 256), .int .u8 ((48 + bits BinOp.and IntKind.u8 (c.toNat : Int) 7) % 256)] 5)).heap.size = wr.heap.size + 1 := by simp
        have HW := Lib.hid (sbWrite_any (HB.out.on ka) (fun g hg => HS.out g (by omega)) hlit (fun h => by have := HB.out.lt; omega) (by simp only [List.length_cons, List.length_nil]; omega))
        have HKA := Lib.hid ka
        simp only [List.length_cons, List.length_nil, Nat.zero_add, Nat.reduceAdd] at HW
        clear hp2 e1 e2 e3 ka hlit hwr
        go_wp2_with (first | (go_at_call 14; go_loud (refine (hpl.out _).mono ?_); rintro e w3 ⟨rfl, rfl⟩) | (go_at_call 16; go_loud (refine HW.out.mono ?_); rintro e w4 ⟨rfl, hB4, hk4⟩))
        go_roundw
        case rel => exact ⟨k + 1, by omega, by go_num, by rw [HE.out]; exact hB4, (HL.out.keepN HKA.out).keep hk4 (fun g hg _ h => by omega), (HK.out.trans HKA.out).step hk4 (fun g hg => by omega), by have := hk4.size; omega⟩
        case measure => simp [intOf]; omega
    · obtain rfl : k = l.length := by omega
      rw [List.take_length] at HB
      have HSt := Lib.hid (sbString_any (B := w.heap.size) HB.out (fun g hg => by omega) (Nat.le_refl _) (by omega))
      clear hle hlt'
      go_wp2_with (go_at_call 17; go_loud (refine HSt.out.mono ?_); rintro e w4 ⟨rfl, hk4⟩)
      go_ret
      exact ⟨rfl, HK.out.step hk4 (fun g hg => .inr hg)⟩

end Go.Proofs.YtokpmakhhhlbkaaDoor
