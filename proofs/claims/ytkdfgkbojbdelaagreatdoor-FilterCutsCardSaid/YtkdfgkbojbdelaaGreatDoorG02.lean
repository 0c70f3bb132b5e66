/-
  Layer 10: contracts: String of a Builder, plain, Escape, Escaped.
-/
import Derived.Test.YtkdfgkbojbdelaaGreatDoorG01
import Derived.Lib.ConvBytes
import Derived.Laws.IdiomStrings
import Derived.Test.YtkdfgkbojbdelaaGreatDoorProg
import Derived.Shelf.Strings.Fields
import Derived.Shelf.Strings.Count
import Derived.Handy
import Derived.Lib.SlBytesConst
import Derived.Laws.EntriesVeiled
import Derived.Shelf.Strconv.ParseIntPublic10
import Derived.Shelf.Strconv.Itoa4
import Derived.BigRegion

set_option linter.unusedSimpArgs false
set_option linter.unusedVariables false
set_option maxRecDepth 100000
set_option maxHeartbeats 4000000
namespace Go.Proofs.YtkdfgkbojbdelaaGreatDoor
open Go Go.RowKit
theorem conv_sl (w : World) (s : ByteArray) (hs : s.size <= maxLen) :
 SlAt encU8 (fun g => g = w.heap.size) (Lib.bytesWorld w 5 s) (some ⟨w.heap.size, 0, none⟩) (grownCap w s.size 0 5) s.data.toList ∧ Keeps NoB w (Lib.bytesWorld w 5 s) := by
 have hge : s.size <= grownCap w s.size 0 5 := grownCap_ge w s.size 0 5
 have hle := grownCap_le_maxLen w s.size 0 5 hs
 have hsize := Lib.bytesWorld_size w 5 s
 have hl : s.data.toList.length = s.size := len_data s
 refine ⟨⟨by rw [hl]; exact hge, hle, (fun h => by cases h), (fun _ a ha => by cases ha; rfl), fun _ => ⟨w.heap.size, 0, rfl, rfl, by rw [hsize]; omega, fun j hj => ?_⟩⟩, ?_⟩
 ·have hj2 : j < s.data.toList.length := by simpa [encU8] using hj
  rw [Nat.zero_add, Lib.bytesWorld_cell w 5 s j hj2]
  have := Enc.flat_get encU8 s.data.toList j 0 (by decide)
  simp only [show encU8.k = 1 from rfl, Nat.mul_one, Nat.add_zero] at this
  rw [this, List.getElem?_eq_getElem hj2]
  simp [List.getD, List.getElem?_eq_getElem hj2, encU8]
 ·refine ⟨?_, ?_, ?_, by omega, fun k hk _ => Lib.bytesWorld_at_old w 5 s k hk⟩
  ·simp [Lib.bytesWorld, World.freeze]; rfl
  ·simp [Lib.bytesWorld, World.freeze]
  ·simp [Lib.bytesWorld, World.freeze]; rfl
end Go.Proofs.YtkdfgkbojbdelaaGreatDoor
namespace Go.Proofs.YtkdfgkbojbdelaaGreatDoor
open Go Go.Shelf Go.RowKit
def lays157_ren : Go.Shelf.Ren :=
{
 f := fun x =>
   match x with
   | 157 => 61
   | 229 => 90
   | 199 => 91
   | 261 => 117
   | 311 => 135
   | 312 => 136
   | n => n,
 t := fun x =>
   match x with
   | 9 => 9
   | 31 => 29
   | 3 => 3
   | 5 => 5
   | 4 => 4
   | 119 => 118
   | 0 => 0
   | 40 => 120
   | 152 => 147
   | 21 => 21
   | 154 => 149
   | 51 => 41
   | 141 => 151
   | 196 => 170
   | 193 => 167
   | 198 => 173
   | 49 => 171
   | 194 => 168
   | 201 => 176
   | 226 => 188
   | 46 => 123
   | 227 => 189
   | n => n,
 g := fun x =>
   match x with
   | 0 => 1
   | 6 => 2
   | n => n }
theorem lays157 : Lays.n157 Tryz.prog lays157_ren :=
{ mixed := Eq.refl true, f157 := Eq.trans Tryz.func61 (congrArg some (Eq.refl (Body.n157 lays157_ren))),
  f199 := Eq.trans Tryz.func91 (congrArg some (Eq.refl (Body.n199 lays157_ren))),
  f229 := Eq.trans Tryz.func90 (congrArg some (Eq.refl (Body.n229 lays157_ren))),
  f261 := Eq.trans Tryz.func117 (congrArg some (Eq.refl (Body.n261 lays157_ren))),
  f311 := Eq.trans Tryz.func135 (congrArg some (Eq.refl (Body.n311 lays157_ren))),
  f312 := Eq.trans Tryz.func136 (congrArg some (Eq.refl (Body.n312 lays157_ren))), t0 := Tryz.underlying0,
  a0 := Tryz.isAgg0, z0 := Tryz.sizeOf0, v0 := Tryz.zeroValue0, t3 := Tryz.underlying3, a3 := Tryz.isAgg3,
  z3 := Tryz.sizeOf3, v3 := Tryz.zeroValue3, t4 := Tryz.underlying4, a4 := Tryz.isAgg4, z4 := Tryz.sizeOf4,
  v4 := Tryz.zeroValue4, t5 := Tryz.underlying5, a5 := Tryz.isAgg5, z5 := Tryz.sizeOf5, v5 := Tryz.zeroValue5,
  t9 := Tryz.underlying9, a9 := Tryz.isAgg9, z9 := Tryz.sizeOf9, v9 := Tryz.zeroValue9, t21 := Tryz.underlying21,
  a21 := Tryz.isAgg21, z21 := Tryz.sizeOf21, v21 := Tryz.zeroValue21, t31 := Tryz.underlying29, a31 := Tryz.isAgg29,
  z31 := Tryz.sizeOf29, v31 := Tryz.zeroValue29, t40 := Tryz.underlying120, a40 := Tryz.isAgg120, z40 := Tryz.sizeOf120,
  v40 := Tryz.zeroValue120, t46 := Tryz.underlying123, a46 := Tryz.isAgg123, z46 := Tryz.sizeOf123,
  v46 := Tryz.zeroValue123, t49 := Tryz.underlying171, a49 := Tryz.isAgg171, z49 := Tryz.sizeOf171,
  v49 := Tryz.zeroValue171, t51 := Tryz.underlying41, a51 := Tryz.isAgg41, z51 := Tryz.sizeOf41,
  v51 := Tryz.zeroValue41, t119 := Tryz.underlying118, a119 := Tryz.isAgg118, z119 := Tryz.sizeOf118,
  t141 := Tryz.underlying151, a141 := Tryz.isAgg151, z141 := Tryz.sizeOf151, v141 := Tryz.zeroValue151,
  t152 := Tryz.underlying147, a152 := Tryz.isAgg147, z152 := Tryz.sizeOf147, v152 := Tryz.zeroValue147,
  t154 := Tryz.underlying149, a154 := Tryz.isAgg149, z154 := Tryz.sizeOf149, v154 := Tryz.zeroValue149,
  t193 := Tryz.underlying167, a193 := Tryz.isAgg167, z193 := Tryz.sizeOf167, v193 := Tryz.zeroValue167,
  t194 := Tryz.underlying168, a194 := Tryz.isAgg168, z194 := Tryz.sizeOf168, v194 := Tryz.zeroValue168,
  t196 := Tryz.underlying170, a196 := Tryz.isAgg170, z196 := Tryz.sizeOf170, v196 := Tryz.zeroValue170,
  t198 := Tryz.underlying173, a198 := Tryz.isAgg173, z198 := Tryz.sizeOf173, v198 := Tryz.zeroValue173,
  t201 := Tryz.underlying176, a201 := Tryz.isAgg176, z201 := Tryz.sizeOf176, v201 := Tryz.zeroValue176,
  t226 := Tryz.underlying188, a226 := Tryz.isAgg188, z226 := Tryz.sizeOf188, v226 := Tryz.zeroValue188,
  t227 := Tryz.underlying189, a227 := Tryz.isAgg189, z227 := Tryz.sizeOf189, v227 := Tryz.zeroValue189,
  g0 := by kernel_rfl, g6 := by kernel_rfl }
def lays138_ren : Go.Shelf.Ren :=
{
 f := fun x =>
   match x with
   | 138 => 37
   | 195 => 58
   | 218 => 59
   | 143 => 60
   | 219 => 89
   | 217 => 56
   | 225 => 114
   | 224 => 115
   | 267 => 116
   | 266 => 87
   | 314 => 134
   | n => n,
 t := fun x =>
   match x with
   | 9 => 9
   | 3 => 3
   | 4 => 4
   | 5 => 5
   | 0 => 0
   | 46 => 123
   | 146 => 165
   | 51 => 41
   | n => n,
 g := fun x =>
   match x with
   | 1 => 0
   | n => n }
theorem lays138 : Lays.n138 Tryz.prog lays138_ren :=
{ mixed := Eq.refl true, f138 := Eq.trans Tryz.func37 (congrArg some (Eq.refl (Body.n138 lays138_ren))),
  f143 := Eq.trans Tryz.func60 (congrArg some (Eq.refl (Body.n143 lays138_ren))),
  f195 := Eq.trans Tryz.func58 (congrArg some (Eq.refl (Body.n195 lays138_ren))),
  f217 := Eq.trans Tryz.func56 (congrArg some (Eq.refl (Body.n217 lays138_ren))),
  f218 := Eq.trans Tryz.func59 (congrArg some (Eq.refl (Body.n218 lays138_ren))),
  f219 := Eq.trans Tryz.func89 (congrArg some (Eq.refl (Body.n219 lays138_ren))),
  f224 := Eq.trans Tryz.func115 (congrArg some (Eq.refl (Body.n224 lays138_ren))),
  f225 := Eq.trans Tryz.func114 (congrArg some (Eq.refl (Body.n225 lays138_ren))),
  f266 := Eq.trans Tryz.func87 (congrArg some (Eq.refl (Body.n266 lays138_ren))),
  f267 := Eq.trans Tryz.func116 (congrArg some (Eq.refl (Body.n267 lays138_ren))),
  f314 := Eq.trans Tryz.func134 (congrArg some (Eq.refl (Body.n314 lays138_ren))), t0 := Tryz.underlying0,
  a0 := Tryz.isAgg0, z0 := Tryz.sizeOf0, v0 := Tryz.zeroValue0, t3 := Tryz.underlying3, a3 := Tryz.isAgg3,
  z3 := Tryz.sizeOf3, v3 := Tryz.zeroValue3, t4 := Tryz.underlying4, a4 := Tryz.isAgg4, z4 := Tryz.sizeOf4,
  v4 := Tryz.zeroValue4, t5 := Tryz.underlying5, a5 := Tryz.isAgg5, z5 := Tryz.sizeOf5, v5 := Tryz.zeroValue5,
  t9 := Tryz.underlying9, a9 := Tryz.isAgg9, z9 := Tryz.sizeOf9, v9 := Tryz.zeroValue9, t46 := Tryz.underlying123,
  a46 := Tryz.isAgg123, z46 := Tryz.sizeOf123, v46 := Tryz.zeroValue123, t51 := Tryz.underlying41, a51 := Tryz.isAgg41,
  z51 := Tryz.sizeOf41, v51 := Tryz.zeroValue41, t146 := Tryz.underlying165, a146 := Tryz.isAgg165,
  z146 := Tryz.sizeOf165, v146 := Tryz.zeroValue165, g1 := by kernel_rfl }
def As22 (w : World) : Prop := ∀ c : Nat, c < 256 -> w.cell? ⟨1, c, none⟩ = some (.int .u8 (if Lib.isSp (UInt8.ofNat c) then 1 else 0))
theorem As22.on {w w' : World} (h : As22 w) (k : Keeps NoB w w') : As22 w' := fun c hc => (k.cell (p := ⟨1, c, none⟩) (lt_of_cell (h c hc)) (fun h => h)).trans (h c hc)
theorem fields_asc (s : ByteArray) (w : World) (hs : s.size <= 1000000) (ha : ∀ (j : Nat) b, s.data.toList[j]? = some b -> b.toNat < 128) (h : As22 w) :
 Calls Tryz.prog 61 #[.string s] w fun e w' => e = .returned (.slice (some ⟨w.heap.size, 0, none⟩) (Lib.fields s.data.toList).length (Lib.fields s.data.toList).length) ∧ Keeps NoB w w' := by
 refine (Any.strings_Fields_core lays157 (by kernel_rfl) s w (by omega) ha h).mono ?_
 rintro e w' ⟨h1, rfl⟩
 exact ⟨h1, (Keeps.refl _ _).alloc _⟩
theorem count_nl (s : ByteArray) (w : World) : Calls Tryz.prog 37 #[.string s, .string ⟨#[10]⟩] w fun e w' => e = .returned (.int .i64 (Lib.countByte s.data.toList 10)) ∧ w = w' := by
 refine (Any.strings_Count_one lays138 s 10 w).mono ?_
 rintro e w' ⟨h1, rfl⟩
 exact ⟨h1, rfl⟩
theorem sl_str {S : Nat -> Prop} {w : World} {g cap : Nat} {l : List UInt8} (h : SlAt encU8 S w (some ⟨g, 0, none⟩) cap l) (h0 : 0 < l.length) :
 (convert 28 9 (.slice (some ⟨g, 0, none⟩) l.length cap)).run Tryz.prog w = .ok (.string ⟨l.toArray⟩) w := by
 have := run_convert_bytes_back (P := Tryz.prog) w 28 9 5 ⟨g, 0, none⟩ cap l Tryz.underlying28 Tryz.underlying5 Tryz.underlying9 (fun j hj => by
  obtain ⟨g', off, e, _, _, hc⟩ := h.at (List.getElem?_eq_getElem hj)
  cases e
  have := hc 0 _ rfl
  rw [add_lit, Nat.zero_add]
  simpa [encU8] using this)
 simpa using this
end Go.Proofs.YtkdfgkbojbdelaaGreatDoor
namespace Go.Proofs.YtkdfgkbojbdelaaGreatDoor
open Go Go.RowKit
def dgB (k : Nat) : ByteArray := ⟨#[(48 + k).toUInt8]⟩
theorem itoa_digit (k : Nat) (hk : k = 0 ∨ k = 1 ∨ k = 2) (w : World) : Calls Tryz.prog 35 #[.int .i64 (k : Int)] w fun e w' => e = .returned (.string (dgB k)) ∧ w = w' := by
 have h3 : Hid (Calls Tryz.prog 109 #[.int .i64 (k : Int)] w fun e w' => e = .returned (.string (dgB k)) ∧ w = w') := by
  show Calls _ _ _ _ _
  rcases hk with rfl | rfl | rfl
  all_goals
   go_enter Tryz.func109, Tryz.ntmps109
   go_wp2
   go_ret
   exact ⟨rfl, rfl⟩
 have h2 : Hid (Calls Tryz.prog 88 #[.int .i64 (k : Int), .int .i64 10] w fun e w' => e = .returned (.string (dgB k)) ∧ w = w') := by
  show Calls _ _ _ _ _
  have hl : (k : Int) < 100 := by omega
  have hg : (0 : Int) <= k := by omega
  clear hk
  go_enter Tryz.func88, Tryz.ntmps88
  go_wp2_with (go_at_call 109; go_loud (refine h3.out.mono ?_); rintro e w1 ⟨rfl, rfl⟩)
  go_ret
  exact ⟨rfl, rfl⟩
 have h1 : Hid (Calls Tryz.prog 57 #[.int .i64 (k : Int)] w fun e w' => e = .returned (.string (dgB k)) ∧ w = w') := by
  show Calls _ _ _ _ _
  go_enter Tryz.func57, Tryz.ntmps57
  go_wp2_with (go_at_call 88; go_loud (refine h2.out.mono ?_); rintro e w1 ⟨rfl, rfl⟩)
  go_ret
  exact ⟨rfl, rfl⟩
 go_enter Tryz.func35, Tryz.ntmps35
 go_wp2_with (go_at_call 57; go_loud (refine h1.out.mono ?_); rintro e w1 ⟨rfl, rfl⟩)
 go_ret
 exact ⟨rfl, rfl⟩
theorem results_cell_oneF {fn : Func} {p : Tmp} {ty : TypeId} (h : fn.results = #[.cell p ty]) (tmps : Array Value) (P : Program) (w : World) :
 (results fn tmps).run P w = ((asAddr (tmps.getD p undef)).run P w).andThen fun a w₁ => (loadVar ty a).run P w₁ := by
 simp only [results, h]
 simp [Sem.run_bind, Result.andThen]
theorem plain_asc (s : ByteArray) (w : World) (h1 : 1 <= s.size) (hs : s.size <= 1000000) (ha : ∀ (j : Nat) b, s.data.toList[j]? = some b -> b.toNat < 128) :
 Calls Tryz.prog 62 #[.string s] w fun e w' => e = .returned (.string s) ∧ Keeps NoB w w' := by
 have hconv := fun wx => Lib.run_convert_string_bytes (P := Tryz.prog) wx 9 28 5 s Tryz.underlying9 Tryz.underlying28 Tryz.underlying5
 have hl : s.data.toList.length = s.size := len_data s
 obtain ⟨hsl, hkc⟩ := conv_sl w s (by unfold maxLen; omega)
 have HL := Lib.hid hsl
 have HK := Lib.hid hkc
 have HA := Lib.hid ha
 have hcp := hsl.cap
 have hmx := hsl.max
 unfold maxLen at hmx
 rw [hl] at hcp
 have hst := sl_str hsl (by rw [hl]; omega)
 rw [hl] at hst
 have HS := Lib.hid hst
 clear hsl hkc ha hst
 go_enter Tryz.func62, Tryz.ntmps62
 go_upto_region 3 with fail
 clear hconv
 generalize grownCap w s.size 0 5 = cp at *
 generalize Lib.bytesWorld w 5 s = w2 at *
 go_loop [10] (fun i => ∃ k : Nat, k <= s.size ∧ i = .int .i64 k) (fun i => s.size + 1 - (intOf i).toNat)
 case atStart => exact ⟨0, Nat.zero_le _, rfl⟩
 case round =>
  obtain ⟨k, hk, rfl⟩ := hrel
  by_cases hlt : k < s.size
  ·obtain ⟨b, hb⟩ : ∃ b, s.data.toList[k]? = some b := ⟨_, List.getElem?_eq_getElem (by rw [hl]; exact hlt)⟩
   have t0 : w2.cell? ⟨w.heap.size, k, none⟩ = some (.int .u8 (b.toNat : Int)) := by
    obtain ⟨g, off, e, _, _, hcc⟩ := HL.out.at hb
    cases e
    have := hcc 0 _ rfl
    simpa [encU8] using this
   have hb8 : (b.toNat : Int) < 128 := by have := HA.out k b hb; omega
   clear hb
   go_wp2
   go_round
   case rel => exact ⟨k + 1, by omega, by go_num⟩
   case measure => simp [intOf]; omega
  ·obtain rfl : k = s.size := by omega
   have hst := HS.out
   go_wp2
   go_ret
   exact ⟨rfl, HK.out⟩
theorem words_asc (s : ByteArray) (w : World) (h1 : 1 <= s.size) (hs : s.size <= 1000000) (ha : ∀ (j : Nat) b, s.data.toList[j]? = some b -> b.toNat < 128) (ht : As22 w) :
 Calls Tryz.prog 38 #[.string s] w fun e w' => e = .returned (.int .i64 ((Lib.fields s.data.toList).length : Int)) ∧ Keeps NoB w w' := by
 have HP := Lib.hid (plain_asc s w h1 hs ha)
 have HF := Lib.hid (fun (w1 : World) (k : Keeps NoB w w1) => fields_asc s w1 hs ha (ht.on k))
 obtain ⟨n, hn⟩ : ∃ n, (Lib.fields s.data.toList).length = n := ⟨_, rfl⟩
 rw [hn] at HF ⊢
 clear ha ht hn
 go_enter Tryz.func38, Tryz.ntmps38
 go_wp2_with (first | (go_at_call 62; go_loud (refine HP.out.mono ?_); rintro e w1 ⟨rfl, hk1⟩) | (go_at_call 61; go_loud (refine (HF.out _ hk1).mono ?_); rintro e w2 ⟨rfl, hk2⟩))
 go_ret
 exact ⟨rfl, hk1.trans hk2⟩
theorem results_cell_tmpF {fn : Func} {p q : Tmp} {ty : TypeId} (h : fn.results = #[.cell p ty, .tmp q]) (tmps : Array Value) (P : Program) (w : World) :
 (results fn tmps).run P w = ((asAddr (tmps.getD p undef)).run P w).andThen fun a w₁ => ((loadVar ty a).run P w₁).andThen fun v w₂ => .ok (.tuple #[v, tmps.getD q undef]) w₂ := by
 simp only [results, h]
 simp [Sem.run_bind, Result.andThen]
abbrev xyB : ByteArray := ⟨#[120, 10, 121, 10]⟩
def Ex22 (w : World) (L : Nat) : Prop := Bk w L [.string ⟨#[97]⟩, .string xyB, .int .i64 0]
theorem find_ex (w : World) (L : Nat) (h : Ex22 w L) : Calls Tryz.prog 8 #[.agg #[.string ⟨#[]⟩, .int .i64 0, .slice (some ⟨L, 0, none⟩) 1 1], .string ⟨#[97]⟩] w fun e w' => e = .returned (.tuple #[.agg #[.string ⟨#[97]⟩, .string xyB, .int .i64 0], .int .i64 0]) ∧ Keeps NoB w w' := by
 have c0 := Bk.cell h 0 _ rfl
 have c1 := Bk.cell h 1 _ rfl
 have c2 := Bk.cell h 2 _ rfl
 have cl := Bk.lt h
 clear h
 go_enter Tryz.func8, Tryz.ntmps8
 go_wp2
 go_loop [6] (fun v => v = .int .i64 0) (fun _ => 0)
 case atStart => rfl
 case round =>
  subst hrel
  go_wp2
  (try simp only [Exit.inBlock, Exit.then])
  refine bodyPost_ret (v := .tuple #[.agg #[.string ⟨#[97]⟩, .string xyB, .int .i64 0], .int .i64 0]) ?_ rfl ?_
  ·rw [results_cell_tmpF rfl]; go_simp
  exact ⟨rfl, ((Keeps.refl _ _).alloc _).alloc _⟩
theorem file_ex (w : World) (L : Nat) (h : Ex22 w L) : Calls Tryz.prog 179 #[.agg #[.string ⟨#[]⟩, .int .i64 0, .slice (some ⟨L, 0, none⟩) 1 1], .string ⟨#[97]⟩] w fun e w' => e = .returned (.tuple #[.string xyB, .int .i64 0]) ∧ Keeps NoB w w' := by
 have HF := Lib.hid (fun (w1 : World) (k : Keeps NoB w w1) => find_ex w1 L (Bk.on h k))
 have HK := Lib.hid ((Keeps.refl NoB w).alloc (.cells #[.string ⟨#[]⟩, .int .i64 0, .slice (some ⟨L, 0, none⟩) 1 1] 27))
 clear h
 go_enter Tryz.func179, Tryz.ntmps179
 go_wp2_with (go_at_call 8; go_loud (refine (HF.out _ HK.out).mono ?_); rintro e w1 ⟨rfl, hk1⟩)
 go_ret2
 exact ⟨rfl, (HK.out.trans hk1).alloc _⟩
theorem read_ex (w : World) (L : Nat) (h : Ex22 w L) : Calls Tryz.prog 31 #[.string ⟨#[97]⟩, .iface 27 (.agg #[.string ⟨#[]⟩, .int .i64 0, .slice (some ⟨L, 0, none⟩) 1 1])] w fun e w' => e = .returned (.tuple #[.string xyB, .int .i64 0]) ∧ Keeps NoB w w' := by
 have HF := Lib.hid (file_ex w L h)
 clear h
 go_enter Tryz.func31, Tryz.ntmps31
 go_wp2_with (go_at_call 179; go_loud (refine HF.out.mono ?_); rintro e w1 ⟨rfl, hk1⟩)
 go_ret2
 exact ⟨rfl, hk1⟩
theorem line_ex (w : World) (K : Nat) (h : Bk w K [.string ⟨#[108]⟩]) : Calls Tryz.prog 34 #[.agg #[.int .i64 2, .int .i64 2, .int .i64 4], .string ⟨#[97]⟩, .pointer (some ⟨K, 0, none⟩)] w fun e w' => e = .returned (.string ⟨#[50, 32, 97, 10]⟩) ∧ Keeps NoB w w' := by
 have c0 := h.cell 0 _ rfl
 have cl := h.lt
 have hconv := fun wx => Lib.run_convert_string_bytes (P := Tryz.prog) wx 9 28 5 ⟨#[108]⟩ Tryz.underlying9 Tryz.underlying28 Tryz.underlying5
 obtain ⟨hsl, hkc⟩ := conv_sl (w.alloc (.cells #[.int .i64 2, .int .i64 2, .int .i64 4] 70)) ⟨#[108]⟩ (by decide)
 have hb := Bk.new hkc
 have d0 := hb.cell 0 _ rfl
 have d1 := hb.cell 1 _ rfl
 have d2 := hb.cell 2 _ rfl
 have dl := hb.lt
 have hz : (w.alloc (.cells #[.int .i64 2, .int .i64 2, .int .i64 4] 70)).heap.size = w.heap.size + 1 := by simp
 have t0 : (Lib.bytesWorld (w.alloc (.cells #[.int .i64 2, .int .i64 2, .int .i64 4] 70)) 5 ⟨#[108]⟩).cell? ⟨w.heap.size + 1, 0, none⟩ = some (.int .u8 108) := by
  obtain ⟨g, off, e, _, _, hcc⟩ := hsl.at (i := 0) (x := 108) rfl
  cases e
  have := hcc 0 _ rfl
  rw [hz] at this
  simpa [encU8] using this
 have hcp := hsl.cap
 have hmx := hsl.max
 unfold maxLen at hmx
 have HK := Lib.hid (((Keeps.refl NoB w).alloc (.cells #[.int .i64 2, .int .i64 2, .int .i64 4] 70)).trans hkc)
 have HIb := Lib.hid (fun wx => ib_any ⟨#[108, 119, 99]⟩ 108 wx)
 rw [show bIdx (⟨#[108, 119, 99]⟩ : ByteArray) ((108 : Int)).toNat.toUInt8 = 0 by decide] at HIb
 have HIt : Hid (∀ w1 : World, Calls Tryz.prog 35 #[.int .i64 2] w1 fun e w' => e = .returned (.string ⟨#[50]⟩) ∧ w1 = w') := Lib.hid (fun w1 : World => itoa_digit 2 (.inr (.inr rfl)) w1)
 clear h hsl hkc hb hz
 go_enter Tryz.func34, Tryz.ntmps34
 go_upto_region 3 with fail
 clear hconv c0 cl
 generalize Lib.bytesWorld (w.alloc (.cells #[.int .i64 2, .int .i64 2, .int .i64 4] 70)) 5 ⟨#[108]⟩ = w2 at *
 go_loop [6, 12] (fun o i => (o = .string ⟨#[]⟩ ∧ i = .int .i64 0) ∨ (o = .string ⟨#[50]⟩ ∧ i = .int .i64 1)) (fun _ i => 2 - (intOf i).toNat)
 case atStart => exact .inl ⟨rfl, rfl⟩
 case round =>
  rcases hrel with ⟨rfl, rfl⟩ | ⟨rfl, rfl⟩
  ·go_wp2_with (first | (go_at_call 33; go_loud (refine (HIb.out _).mono ?_); rintro e w3 ⟨rfl, rfl⟩) | (go_at_call 35; go_loud (refine (HIt.out _).mono ?_); rintro e w4 ⟨rfl, rfl⟩))
   go_round
   case rel => exact .inr ⟨congrArg Value.string (by decide), by go_num⟩
   case measure => simp [intOf]
  ·go_wp2
   go_ret
   exact ⟨congrArg (fun s => Ending.returned (Value.string s)) (by decide), HK.out⟩
def accX : Nat -> List Value
 | 0 => [.int .i64 0, .int .i64 0, .int .i64 0]
 | 1 => [.int .i64 2, .int .i64 0, .int .i64 0]
 | 2 => [.int .i64 2, .int .i64 2, .int .i64 0]
 | _ => [.int .i64 2, .int .i64 2, .int .i64 4]
def lineF (K : Nat) : Value := .func (.func 34) #[] #[.pointer (some ⟨K, 0, none⟩)]
theorem tell_ex (w : World) (A T Lb K : Nat) (hA : Bk w A (accX 0)) (hT : Bk w T [.int .i64 0]) (hL : Bk w Lb [lineF K]) (hK : Bk w K [.string ⟨#[108]⟩]) (ht : As22 w) (n1 : T ≠ A) (n2 : Lb ≠ A) (n3 : K ≠ A) (n4 : Lb ≠ T) (n5 : K ≠ T) :
 Calls Tryz.prog 36 #[.string xyB, .string ⟨#[97]⟩, .pointer (some ⟨A, 0, none⟩), .pointer (some ⟨T, 0, none⟩), .pointer (some ⟨Lb, 0, none⟩)] w fun e w' => e = .returned (.string ⟨#[50, 32, 97, 10]⟩) ∧ Keeps (fun g => g = A ∨ g = T) w w' ∧ Bk w' T [.int .i64 1] := by
 have HC := Lib.hid (fun w1 : World => count_nl xyB w1)
 rw [show Lib.countByte xyB.data.toList 10 = 2 by decide] at HC
 have HW := Lib.hid (fun w1 (k : Keeps NoB w w1) => words_asc xyB w1 (by decide) (by decide) (by
  intro j b hb
  have : ∀ b ∈ xyB.data.toList, b.toNat < 128 := by decide
  exact this b (List.mem_of_getElem? hb)) (ht.on k))
 rw [show (Lib.fields xyB.data.toList).length = 2 by decide] at HW
 have HA := Lib.hid hA
 have HT := Lib.hid hT
 have HL := Lib.hid hL
 have HK := Lib.hid hK
 have N1 := Lib.hid n1
 have N2 := Lib.hid n2
 have N3 := Lib.hid n3
 have N4 := Lib.hid n4
 have N5 := Lib.hid n5
 clear hA hT hL hK ht n1 n2 n3 n4 n5
 go_enter Tryz.func36, Tryz.ntmps36
 go_upto_region 3 with (first | (go_at_call 37; go_loud (refine (HC.out _).mono ?_); rintro e w1 ⟨rfl, rfl⟩) | (go_at_call 38; go_loud (refine (HW.out _ (Keeps.refl _ _)).mono ?_); rintro e w2 ⟨rfl, hk2⟩))
 have ka : Keeps NoB w2 (w2.alloc (.cells #[.int .i64 2, .int .i64 2, .int .i64 4] 70)) := (Keeps.refl _ _).alloc _
 have HN := Lib.hid (Bk.new (Keeps.refl NoB (w2.alloc (.cells #[.int .i64 2, .int .i64 2, .int .i64 4] 70))))
 have HK3 := Lib.hid (hk2.trans ka)
 have NA : Hid (A ≠ w2.heap.size) := by
  show A ≠ w2.heap.size
  have := HA.out.lt
  have := hk2.size
  omega
 have HNB : Hid (w.heap.size <= w2.heap.size) := Lib.hid hk2.size
 clear hk2 ka HC HW
 generalize w2.alloc (.cells #[.int .i64 2, .int .i64 2, .int .i64 4] 70) = w3 at *
 generalize w2.heap.size = NB at *
 go_loopw [17] (fun i wr => ∃ k : Nat, k <= 3 ∧ i = .int .i64 k ∧ Bk wr A (accX k) ∧ Keeps (fun g => g = A) w3 wr) (fun i _ => 4 - (intOf i).toNat)
 case atStart => exact ⟨0, by omega, rfl, HA.out.on HK3.out, Keeps.refl _ _⟩
 case round =>
  obtain ⟨k, hk, rfl, hb, hk4⟩ := hrel
  have HB := Lib.hid hb
  have HK4 := Lib.hid hk4
  have HNr := Lib.hid (HN.out.keep hk4 (fun e => NA.out e.symm))
  clear hb hk4
  rcases (show k = 0 ∨ k = 1 ∨ k = 2 ∨ k = 3 by omega) with rfl | rfl | rfl | rfl
  ·have a0 := HB.out.cell 0 _ rfl
   have m0 := HNr.out.cell 0 _ rfl
   have af := HB.out.fz 0
   have al := HB.out.lt
   have ml := HNr.out.lt
   go_upto_region 5 with fail
   go_region
   all_goals
    go_wp2
    go_roundw
    case rel => exact ⟨1, by omega, by go_num, (HB.out.put 0 (.int .i64 2)).on (Keeps.refl _ _).drew, (HK4.out.trans (kset wr ⟨A, 0, none⟩ (.int .i64 2))).drew⟩
    case measure => simp [intOf]
  ·have a0 := HB.out.cell 1 _ rfl
   have m0 := HNr.out.cell 1 _ rfl
   have af := HB.out.fz 1
   have al := HB.out.lt
   have ml := HNr.out.lt
   go_upto_region 5 with fail
   go_region
   all_goals
    go_wp2
    go_roundw
    case rel => exact ⟨2, by omega, by go_num, (HB.out.put 1 (.int .i64 2)).on (Keeps.refl _ _).drew, (HK4.out.trans (kset wr ⟨A, 1, none⟩ (.int .i64 2))).drew⟩
    case measure => simp [intOf]
  ·have a0 := HB.out.cell 2 _ rfl
   have m0 := HNr.out.cell 2 _ rfl
   have af := HB.out.fz 2
   have al := HB.out.lt
   have ml := HNr.out.lt
   go_upto_region 5 with fail
   go_region
   all_goals
    go_wp2
    go_roundw
    case rel => exact ⟨3, by omega, by go_num, (HB.out.put 2 (.int .i64 4)).on (Keeps.refl _ _).drew, (HK4.out.trans (kset wr ⟨A, 2, none⟩ (.int .i64 4))).drew⟩
    case measure => simp [intOf]
  ·have HTr := Lib.hid ((HT.out.on HK3.out).keep HK4.out N1.out)
   have HLr := Lib.hid ((HL.out.on HK3.out).keep HK4.out N2.out)
   have HKr := Lib.hid ((HK.out.on HK3.out).keep HK4.out N3.out)
   have k5 := kset wr ⟨T, 0, none⟩ (.int .i64 1)
   have NT : Hid (NB ≠ T) := by
    show NB ≠ T
    have h1 := HT.out.lt
    have h2 := HNB.out
    omega
   have HL5 := HLr.out.keep k5 N4.out
   have HN5 := HNr.out.keep k5 NT.out
   have HLn := Lib.hid (line_ex _ K (HKr.out.keep k5 N5.out))
   have HT5 := Lib.hid (HTr.out.put 0 (.int .i64 1))
   have HK5 := Lib.hid (((HK3.out.of_none (F := fun g => g = A ∨ g = T)).trans (HK4.out.mono (fun g _ hg => .inl hg))).trans (k5.mono (fun g _ hg => .inr hg)))
   have t0 := HTr.out.cell 0 _ rfl
   have tf := HTr.out.fz 0
   have tl := HTr.out.lt
   have l0 := HL5.cell 0 _ rfl
   have ll := HL5.lt
   have m0 := HN5.cell 0 _ rfl
   have m1 := HN5.cell 1 _ rfl
   have m2 := HN5.cell 2 _ rfl
   have ml := HN5.lt
   unfold lineF at l0
   clear k5 HL5 HN5
   go_wp2_with (go_at_call 34; go_loud (refine HLn.out.mono ?_); rintro e w6 ⟨rfl, hk6⟩)
   go_ret
   exact ⟨rfl, HK5.out.trans hk6.of_none, HT5.out.on hk6⟩
def res0 : List Value := [.string ⟨#[]⟩, .string ⟨#[]⟩, .int .i64 0]
def tellF (A T Lb : Nat) : Value := .func (.func 36) #[] #[.pointer (some ⟨A, 0, none⟩), .pointer (some ⟨T, 0, none⟩), .pointer (some ⟨Lb, 0, none⟩)]
def inEx (L : Nat) : Value := .iface 27 (.agg #[.string ⟨#[]⟩, .int .i64 0, .slice (some ⟨L, 0, none⟩) 1 1])
theorem each_ex (w : World) (A T Lb K L : Nat) {S : Nat -> Prop} {p : Option Addr} {c : Nat} (hS : SlAt encStr S w p c [⟨#[97]⟩]) (hE : Ex22 w L) (hA : Bk w A (accX 0)) (hT : Bk w T [.int .i64 0]) (hL : Bk w Lb [lineF K]) (hK : Bk w K [.string ⟨#[108]⟩]) (ht : As22 w) (n1 : T ≠ A) (n2 : Lb ≠ A) (n3 : K ≠ A) (n4 : Lb ≠ T) (n5 : K ≠ T) :
 Calls Tryz.prog 14 #[.string ⟨#[119, 99]⟩, .slice p 1 c, inEx L, tellF A T Lb] w fun e w' => e = .returned (.agg #[.string ⟨#[50, 32, 97, 10]⟩, .string ⟨#[]⟩, .int .i64 0]) ∧ Keeps (fun g => g = A ∨ g = T) w w' ∧ Bk w' T [.int .i64 1] := by
 obtain ⟨g, o, rfl, _, hgl, c0⟩ := hS.str (i := 0) (x := ⟨#[97]⟩) rfl
 have hcp := hS.cap
 have hmx := hS.max
 unfold maxLen at hmx
 simp only [List.length_cons, List.length_nil, Nat.zero_add] at hcp
 simp only [Nat.add_zero] at c0
 have HC0 : Hid (w.cell? ⟨g, o, none⟩ = some (.string ⟨#[97]⟩)) := c0
 have k1 : Keeps NoB w (w.alloc (.cells #[.string ⟨#[]⟩, .string ⟨#[]⟩, .int .i64 0] 31)) := (Keeps.refl _ _).alloc _
 have k2 : Keeps NoB (w.alloc (.cells #[.string ⟨#[]⟩, .string ⟨#[]⟩, .int .i64 0] 31)) ((w.alloc (.cells #[.string ⟨#[]⟩, .string ⟨#[]⟩, .int .i64 0] 31)).alloc (.cells #[.string ⟨#[]⟩, .string ⟨#[]⟩, .int .i64 0] 31)) := (Keeps.refl _ _).alloc _
 have HR0 := Lib.hid (Bk.new k2)
 have hr1 := Bk.new (Keeps.refl NoB ((w.alloc (.cells #[.string ⟨#[]⟩, .string ⟨#[]⟩, .int .i64 0] 31)).alloc (.cells #[.string ⟨#[]⟩, .string ⟨#[]⟩, .int .i64 0] 31)))
 rw [show (w.alloc (.cells #[.string ⟨#[]⟩, .string ⟨#[]⟩, .int .i64 0] 31)).heap.size = w.heap.size + 1 by simp] at hr1
 have HR1 := Lib.hid hr1
 have HK2 := Lib.hid (k1.trans k2)
 have hAl := hA.lt
 have hTl := hT.lt
 have hLl := hL.lt
 have hKl := hK.lt
 have HTell : Hid (∀ w4 : World, Keeps NoB w w4 -> Calls Tryz.prog 36 #[.string xyB, .string ⟨#[97]⟩, .pointer (some ⟨A, 0, none⟩), .pointer (some ⟨T, 0, none⟩), .pointer (some ⟨Lb, 0, none⟩)] w4 fun e w' => e = .returned (.string ⟨#[50, 32, 97, 10]⟩) ∧ Keeps (fun g => g = A ∨ g = T) w4 w' ∧ Bk w' T [.int .i64 1]) := Lib.hid fun w4 k => tell_ex w4 A T Lb K (hA.on k) (hT.on k) (hL.on k) (hK.on k) (ht.on k) n1 n2 n3 n4 n5
 have HRead : Hid (∀ w4 : World, Keeps NoB w w4 -> Calls Tryz.prog 31 #[.string ⟨#[97]⟩, inEx L] w4 fun e w' => e = .returned (.tuple #[.string xyB, .int .i64 0]) ∧ Keeps NoB w4 w') := Lib.hid fun w4 k => read_ex w4 L (Bk.on hE k)
 unfold inEx at HRead ⊢
 have HX : Hid ((⟨#[]⟩ ++ ⟨#[50, 32, 97, 10]⟩ : ByteArray) = ⟨#[50, 32, 97, 10]⟩) := Lib.hid (by decide)
 have a0 := c0
 clear hS hE hA hT hL hK ht n1 n2 n3 n4 n5 k1 k2 hr1 c0
 unfold tellF
 go_enter Tryz.func14, Tryz.ntmps14
 go_upto_region 10 with fail
 clear a0
 generalize (w.alloc (.cells #[.string ⟨#[]⟩, .string ⟨#[]⟩, .int .i64 0] 31)).alloc (.cells #[.string ⟨#[]⟩, .string ⟨#[]⟩, .int .i64 0] 31) = w2 at *
 go_loopw [47] (fun i wr => (i = .int .i64 0 ∧ wr = w2) ∨ (i = .int .i64 1 ∧ Bk wr (w.heap.size + 1) [.string ⟨#[50, 32, 97, 10]⟩, .string ⟨#[]⟩, .int .i64 0] ∧ Bk wr w.heap.size res0 ∧ Bk wr T [.int .i64 1] ∧ Keeps (fun g => g = A ∨ g = T ∨ g = w.heap.size + 1) w2 wr)) (fun i _ => 2 - (intOf i).toNat)
 case atStart => exact .inl ⟨rfl, rfl⟩
 case round =>
  rcases hrel with ⟨rfl, hw⟩ | ⟨rfl, hb1, hb0, hbt, hk⟩
  ·obtain rfl : w2 = wr := hw.symm
   have a0 : w2.cell? ⟨g, o, none⟩ = some (.string ⟨#[97]⟩) := (HK2.out.cell (p := ⟨g, o, none⟩) hgl (fun h => h)).trans HC0.out
   go_upto_region 17 with (first | (go_at_call 31; go_loud (refine (HRead.out _ HK2.out).mono ?_); rintro e w4 ⟨rfl, hk4⟩) | (go_at_call 36; go_loud (refine (HTell.out _ (HK2.out.trans hk4)).mono ?_); rintro e w5 ⟨rfl, hk5, hb5⟩))
   have n1 : ¬ (w.heap.size + 1 = A ∨ w.heap.size + 1 = T) := by omega
   have n0 : ¬ (w.heap.size = A ∨ w.heap.size = T) := by omega
   have hr1 := (HR1.out.on hk4).keep hk5 n1
   have hr0 := (HR0.out.on hk4).keep hk5 n0
   have r0 := hr1.cell 0 _ rfl
   have rf := hr1.fz 0
   have rl := hr1.lt
   have HB1 := Lib.hid (hr1.put 0 (.string (⟨#[]⟩ ++ ⟨#[50, 32, 97, 10]⟩)))
   have k6 := kset w5 ⟨w.heap.size + 1, 0, none⟩ (.string (⟨#[]⟩ ++ ⟨#[50, 32, 97, 10]⟩))
   have HB0 := Lib.hid (hr0.keep k6 (by show ¬ w.heap.size = w.heap.size + 1; omega))
   have HBT := Lib.hid (hb5.keep k6 (by show ¬ T = w.heap.size + 1; omega))
   have HK6 := Lib.hid (((hk4.of_none (F := fun g => g = A ∨ g = T ∨ g = w.heap.size + 1)).trans (hk5.mono (fun g _ hg => hg.elim .inl (fun h => .inr (.inl h))))).trans (k6.mono (fun g _ hg => .inr (.inr hg))))
   rw [HX.out] at HB1 HB0 HBT HK6
   clear k6 hr0 hr1 hb5 hk5
   go_wp2_with fail
   go_roundw
   case rel => exact .inr ⟨by go_num, HB1.out, HB0.out, HBT.out, HK6.out⟩
   case measure => simp [intOf]
  ·have r0 := hb1.cell 0 _ rfl
   have r1 := hb1.cell 1 _ rfl
   have r2 := hb1.cell 2 _ rfl
   have rl := hb1.lt
   have s0 := hb0.cell 0 _ rfl
   have s1 := hb0.cell 1 _ rfl
   have s2 := hb0.cell 2 _ rfl
   have sf := hb0.fz
   have sl := hb0.lt
   have HBT := Lib.hid hbt
   have HKr := Lib.hid hk
   clear hb1 hb0 hbt hk
   go_wp2_with fail
   refine bodyPost_ret (v := .agg #[.string ⟨#[50, 32, 97, 10]⟩, .string ⟨#[]⟩, .int .i64 0]) ?_ rfl ?_
   ·rw [results_cell_oneF rfl]; go_simp
   have k3 := kset wr ⟨w.heap.size, 0, none⟩ (.string ⟨#[50, 32, 97, 10]⟩)
   have k4 := kset (wr.setCell ⟨w.heap.size, 0, none⟩ (.string ⟨#[50, 32, 97, 10]⟩)) ⟨w.heap.size, 1, none⟩ (.string ⟨#[]⟩)
   have k5 := kset ((wr.setCell ⟨w.heap.size, 0, none⟩ (.string ⟨#[50, 32, 97, 10]⟩)).setCell ⟨w.heap.size, 1, none⟩ (.string ⟨#[]⟩)) ⟨w.heap.size, 2, none⟩ (.int .i64 0)
   have k6 := (k3.trans k4).trans k5
   refine ⟨rfl, ?_, HBT.out.keep k6 (by show ¬ T = w.heap.size; omega)⟩
   refine ((HK2.out.of_none (F := fun g => g = A ∨ g = T)).step HKr.out (fun g hg => ?_)).step k6 (fun g hg => .inr (Nat.le_of_eq hg.symm))
   rcases hg with h | h | h
   ·exact .inl (.inl h)
   ·exact .inl (.inr h)
   ·exact .inr (by omega)
theorem lit_strF (wx : World) (zs : Array Value) (bs : List UInt8) (h : zs.toList = bs.map fun b => Value.int .u8 (b.toNat : Int)) :
 (convert 28 9 (.slice (some ⟨wx.heap.size, 0, none⟩) bs.length bs.length)).run Tryz.prog (wx.alloc (.cells zs 5)) = .ok (.string ⟨bs.toArray⟩) (wx.alloc (.cells zs 5)) := by
 exact run_convert_bytes_back (P := Tryz.prog) (wx.alloc (.cells zs 5)) 28 9 5 ⟨wx.heap.size, 0, none⟩ bs.length bs Tryz.underlying28 Tryz.underlying5 Tryz.underlying9 (fun j hj => by
  rw [add_lit, Nat.zero_add]
  refine (Bk.new (Keeps.refl NoB (wx.alloc (.cells zs 5)))).cell j _ ?_
  rw [h, List.getElem?_map, List.getElem?_eq_getElem hj]
  rfl)
theorem count_ex (w : World) (L : Nat) {S : Nat -> Prop} {p : Option Addr} {c : Nat} (hS : SlAt encStr S w p c [⟨#[45, 108]⟩, ⟨#[97]⟩]) (hE : Ex22 w L) (ht : As22 w) :
 Calls Tryz.prog 17 #[.slice p 2 c, inEx L] w fun e w' => e = .returned (.agg #[.string ⟨#[50, 32, 97, 10]⟩, .string ⟨#[]⟩, .int .i64 0]) ∧ Keeps NoB w w' := by
 obtain ⟨g, o, rfl, _, hgl, c0⟩ := hS.str (i := 0) (x := ⟨#[45, 108]⟩) rfl
 have hcp := hS.cap
 have hmx := hS.max
 unfold maxLen at hmx
 simp only [List.length_cons, List.length_nil, Nat.zero_add] at hcp
 simp only [Nat.add_zero] at c0
 have hconv := fun wx => Lib.run_convert_string_bytes (P := Tryz.prog) wx 9 28 5 ⟨#[108]⟩ Tryz.underlying9 Tryz.underlying28 Tryz.underlying5
 have hex : (⟨#[45, 108]⟩ : ByteArray).extract 1 2 = ⟨#[108]⟩ := by decide
 have hcpn := hS.cap
 have hsub := hS.sub 1 2 (by omega) (by simp)
 rw [show ([(⟨#[45, 108]⟩ : ByteArray), ⟨#[97]⟩].take 2).drop 1 = [⟨#[97]⟩] from rfl] at hsub
 obtain ⟨vg, vo, hvp, _, hvl, _⟩ := hsub.str (i := 0) (x := ⟨#[97]⟩) rfl
 rw [show encStr.k = 1 from rfl] at hvp
 have hsl1 : ∀ wx : World, (Instr.slice 29 (.slice (some ⟨g, o, none⟩) 2 c) (some (.int .i64 1)) none none).run Tryz.prog wx = .ok (.slice (some ⟨vg, vo, none⟩) 1 (c - 1)) wx := fun wx => by
  rw [<- hvp]
  exact run_slice_l (P := Tryz.prog) 29 9 1 Tryz.underlying29 (by kernel_rfl) (some ⟨g, o, none⟩) 2 c 1 (by omega) wx (by omega)
 rw [show encStr.k = 1 from rfl, hvp] at hsub
 have HSub := Lib.hid hsub
 have HS1 := Lib.hid hsl1
 have HC0 : Hid (w.cell? ⟨g, o, none⟩ = some (.string ⟨#[45, 108]⟩)) := c0
 have HE := Lib.hid hE
 have HTb := Lib.hid ht
 have k1 : Keeps NoB w (w.alloc (.cells #[.string ⟨#[]⟩, .string ⟨#[]⟩, .int .i64 0] 31)) := (Keeps.refl _ _).alloc _
 have k2 : Keeps NoB (w.alloc (.cells #[.string ⟨#[]⟩, .string ⟨#[]⟩, .int .i64 0] 31)) ((w.alloc (.cells #[.string ⟨#[]⟩, .string ⟨#[]⟩, .int .i64 0] 31)).alloc (.cells #[.string ⟨#[]⟩] 9)) := (Keeps.refl _ _).alloc _
 obtain ⟨hsl, hkc⟩ := conv_sl ((w.alloc (.cells #[.string ⟨#[]⟩, .string ⟨#[]⟩, .int .i64 0] 31)).alloc (.cells #[.string ⟨#[]⟩] 9)) ⟨#[108]⟩ (by decide)
 have hz1 : (w.alloc (.cells #[.string ⟨#[]⟩, .string ⟨#[]⟩, .int .i64 0] 31)).heap.size = w.heap.size + 1 := by simp
 have hz2 : ((w.alloc (.cells #[.string ⟨#[]⟩, .string ⟨#[]⟩, .int .i64 0] 31)).alloc (.cells #[.string ⟨#[]⟩] 9)).heap.size = w.heap.size + 1 + 1 := by simp
 have HR0 := Lib.hid (Bk.new (k2.trans hkc))
 have hkb := Bk.new hkc
 rw [hz1] at hkb
 have HKb := Lib.hid hkb
 have t0 : (Lib.bytesWorld ((w.alloc (.cells #[.string ⟨#[]⟩, .string ⟨#[]⟩, .int .i64 0] 31)).alloc (.cells #[.string ⟨#[]⟩] 9)) 5 ⟨#[108]⟩).cell? ⟨w.heap.size + 1 + 1, 0, none⟩ = some (.int .u8 108) := by
  obtain ⟨g, off, e, _, _, hcc⟩ := hsl.at (i := 0) (x := 108) rfl
  cases e
  have := hcc 0 _ rfl
  rw [hz2] at this
  simpa [encU8] using this
 have HWB := Lib.hid ((k1.trans k2).trans hkc)
 have hcp2 := hsl.cap
 have hmx2 := hsl.max
 unfold maxLen at hmx2
 have HI0 := Lib.hid (fun wx => ib_any ⟨#[108, 119, 99]⟩ 108 wx)
 rw [show bIdx (⟨#[108, 119, 99]⟩ : ByteArray) ((108 : Int)).toNat.toUInt8 = 0 by decide] at HI0
 have HI1 := Lib.hid (fun wx => ib_any ⟨#[108]⟩ 108 wx)
 rw [show bIdx (⟨#[108]⟩ : ByteArray) ((108 : Int)).toNat.toUInt8 = 0 by decide] at HI1
 have HI2 := Lib.hid (fun wx => ib_any ⟨#[108]⟩ 119 wx)
 rw [show bIdx (⟨#[108]⟩ : ByteArray) ((119 : Int)).toNat.toUInt8 = -1 by decide] at HI2
 have HI3 := Lib.hid (fun wx => ib_any ⟨#[108]⟩ 99 wx)
 rw [show bIdx (⟨#[108]⟩ : ByteArray) ((99 : Int)).toNat.toUInt8 = -1 by decide] at HI3
 have HX : Hid ((⟨#[]⟩ ++ ⟨#[108]⟩ : ByteArray) = ⟨#[108]⟩) := Lib.hid (by decide)
 have HCp := Lib.hid hcp
 have HMx : Hid (c <= 2 ^ 63 - 1) := Lib.hid hmx
 clear hS hE ht hsub hvp hsl1 k1 k2 hsl hkc hz1 hz2 hkb
 go_enter Tryz.func17, Tryz.ntmps17
 go_upto_region 5 with fail
 clear c0 hconv
 generalize Lib.bytesWorld ((w.alloc (.cells #[.string ⟨#[]⟩, .string ⟨#[]⟩, .int .i64 0] 31)).alloc (.cells #[.string ⟨#[]⟩] 9)) 5 ⟨#[108]⟩ = wB at *
 go_loop [43] (fun i => i = .int .i64 0 ∨ i = .int .i64 1) (fun i => 2 - (intOf i).toNat)
 case atStart => exact .inl rfl
 case round =>
  rcases hrel with rfl | rfl
  ·go_wp2_with (go_at_call 33; go_loud (refine (HI0.out _).mono ?_); rintro e w3 ⟨rfl, rfl⟩)
   go_round
   case rel => exact .inr (by go_num)
   case measure => simp [intOf]
  ·clear t0
   have hcc : (convert 28 28 (.slice (some ⟨wB.heap.size, 0, none⟩) 3 3)).run Tryz.prog (wB.alloc (.cells #[.int .u8 108, .int .u8 119, .int .u8 99] 5)) = .ok (.slice (some ⟨wB.heap.size, 0, none⟩) 3 3) (wB.alloc (.cells #[.int .u8 108, .int .u8 119, .int .u8 99] 5 (3, 4))) := Lib.run_convert_bytes_const wB 28 5 _ 3 3 Tryz.underlying28 Tryz.underlying5
   have m0 : (wB.alloc (.cells #[.int .u8 108, .int .u8 119, .int .u8 99] 5 (3, 4))).cell? ⟨wB.heap.size, 0, none⟩ = some (.int .u8 108) := by rw [cell_of_row _ _ 0 _ _ (3, 4) (heap_alloc_new wB _)]; rfl
   have m1 : (wB.alloc (.cells #[.int .u8 108, .int .u8 119, .int .u8 99] 5 (3, 4))).cell? ⟨wB.heap.size, 1, none⟩ = some (.int .u8 119) := by rw [cell_of_row _ _ 1 _ _ (3, 4) (heap_alloc_new wB _)]; rfl
   have m2 : (wB.alloc (.cells #[.int .u8 108, .int .u8 119, .int .u8 99] 5 (3, 4))).cell? ⟨wB.heap.size, 2, none⟩ = some (.int .u8 99) := by rw [cell_of_row _ _ 2 _ _ (3, 4) (heap_alloc_new wB _)]; rfl
   have HM0 := Lib.hid m0
   have HM1 := Lib.hid m1
   have HM2 := Lib.hid m2
   have ml : wB.heap.size < (wB.alloc (.cells #[.int .u8 108, .int .u8 119, .int .u8 99] 5 (3, 4))).heap.size := by simp
   have HMl := Lib.hid ml
   have kc : Keeps NoB wB (wB.alloc (.cells #[.int .u8 108, .int .u8 119, .int .u8 99] 5 (3, 4))) := (Keeps.refl _ _).alloc _
   have HKc := Lib.hid (HKb.out.on kc)
   have HRc := Lib.hid (HR0.out.on kc)
   have HWC := Lib.hid (HWB.out.trans kc)
   have hbs := HKb.out.lt
   have HBs := Lib.hid hbs
   clear kc m0 m1 m2 hbs
   go_upto_region 11 with fail
   clear hcc ml
   generalize wB.alloc (.cells #[.int .u8 108, .int .u8 119, .int .u8 99] 5 (3, 4)) = wC at *
   generalize wB.heap.size = NB at *
   go_loopw [55] (fun i wr => ∃ k : Nat, k <= 3 ∧ i = .int .i64 k ∧ Bk wr (w.heap.size + 1) [.string (if k = 0 then ⟨#[]⟩ else ⟨#[108]⟩)] ∧ Keeps (fun g => g = w.heap.size + 1) wC wr) (fun i _ => 4 - (intOf i).toNat)
   case atStart => exact ⟨0, by omega, rfl, HKc.out, Keeps.refl _ _⟩
   case round =>
    obtain ⟨k, hk, rfl, hb, hkw⟩ := hrel
    have HB := Lib.hid hb
    have HKw := Lib.hid hkw
    have hne : ¬ NB = w.heap.size + 1 := by have := HBs.out; omega
    have c0 : wr.cell? ⟨g, o, none⟩ = some (.string ⟨#[45, 108]⟩) := (hkw.cell (p := ⟨g, o, none⟩) (Nat.lt_of_lt_of_le hgl HWC.out.size) (fun e => by have e' : g = w.heap.size + 1 := e; omega)).trans ((HWC.out.cell (p := ⟨g, o, none⟩) hgl (fun h => h)).trans HC0.out)
    have HM0r : Hid (wr.cell? ⟨NB, 0, none⟩ = some (.int .u8 108)) := Lib.hid ((hkw.cell (p := ⟨NB, 0, none⟩) HMl.out hne).trans HM0.out)
    have HM1r : Hid (wr.cell? ⟨NB, 1, none⟩ = some (.int .u8 119)) := Lib.hid ((hkw.cell (p := ⟨NB, 1, none⟩) HMl.out hne).trans HM1.out)
    have HM2r : Hid (wr.cell? ⟨NB, 2, none⟩ = some (.int .u8 99)) := Lib.hid ((hkw.cell (p := ⟨NB, 2, none⟩) HMl.out hne).trans HM2.out)
    clear hb hkw
    rcases (show k = 0 ∨ k = 1 ∨ k = 2 ∨ k = 3 by omega) with rfl | rfl | rfl | rfl
    ·have hb : Bk wr (w.heap.size + 1) [.string ⟨#[]⟩] := HB.out
     have m0 := HM0r.out
     have b0 := hb.cell 0 _ rfl
     have bf := hb.fz 0
     have bl := hb.lt
     have hlit : (convert 28 9 (.slice (some ⟨wr.heap.size, 0, none⟩) 1 1)).run Tryz.prog (wr.alloc (.cells #[.int .u8 108] 5)) = .ok (.string ⟨#[108]⟩) (wr.alloc (.cells #[.int .u8 108] 5)) := lit_strF wr #[.int .u8 108] [108] rfl
     have HB2 := Lib.hid ((hb.put 0 (.string (⟨#[]⟩ ++ ⟨#[108]⟩))).on ((Keeps.refl NoB _).alloc (.cells #[.int .u8 108] 5)))
     have HK2 := Lib.hid ((HKw.out.trans (kset wr ⟨w.heap.size + 1, 0, none⟩ (.string (⟨#[]⟩ ++ ⟨#[108]⟩)))).alloc (.cells #[.int .u8 108] 5))
     clear hb
     go_wp2_with (go_at_call 33; go_loud (refine (HI1.out _).mono ?_); rintro e w3 ⟨rfl, rfl⟩)
     go_roundw
     case rel => exact ⟨1, by omega, by go_num, by have h2 := HB2.out; rw [HX.out] at h2 ⊢; exact h2, HK2.out⟩
     case measure => simp [intOf]
    ·have m1 := HM1r.out
     go_wp2_with (go_at_call 33; go_loud (refine (HI2.out _).mono ?_); rintro e w3 ⟨rfl, rfl⟩)
     go_roundw
     case rel => exact ⟨2, by omega, by go_num, HB.out, HKw.out⟩
     case measure => simp [intOf]
    ·have m2 := HM2r.out
     go_wp2_with (go_at_call 33; go_loud (refine (HI3.out _).mono ?_); rintro e w3 ⟨rfl, rfl⟩)
     go_roundw
     case rel => exact ⟨3, by omega, by go_num, HB.out, HKw.out⟩
     case measure => simp [intOf]
    ·have hsl1 := HS1.out
     have hw1 : w.heap.size + 1 < wr.heap.size := HB.out.lt
     have d1 : Keeps NoB wr (wr.alloc (.cells #[.int .i64 0, .int .i64 0, .int .i64 0] 70)) := (Keeps.refl _ _).alloc _
     have d2 : Keeps NoB (wr.alloc (.cells #[.int .i64 0, .int .i64 0, .int .i64 0] 70)) ((wr.alloc (.cells #[.int .i64 0, .int .i64 0, .int .i64 0] 70)).alloc (.cells #[.int .i64 0] 3)) := (Keeps.refl _ _).alloc _
     have d3 : Keeps NoB ((wr.alloc (.cells #[.int .i64 0, .int .i64 0, .int .i64 0] 70)).alloc (.cells #[.int .i64 0] 3)) (((wr.alloc (.cells #[.int .i64 0, .int .i64 0, .int .i64 0] 70)).alloc (.cells #[.int .i64 0] 3)).alloc (.cells #[.func (.func 34) #[] #[.pointer (some ⟨w.heap.size + 1, 0, none⟩)]] 72)) := (Keeps.refl _ _).alloc _
     have z1 : (wr.alloc (.cells #[.int .i64 0, .int .i64 0, .int .i64 0] 70)).heap.size = wr.heap.size + 1 := by simp
     have z2 : ((wr.alloc (.cells #[.int .i64 0, .int .i64 0, .int .i64 0] 70)).alloc (.cells #[.int .i64 0] 3)).heap.size = wr.heap.size + 1 + 1 := by simp
     have hA := Bk.new (d2.trans d3)
     have hT := Bk.new d3
     rw [z1] at hT
     have hL := Bk.new (Keeps.refl NoB (((wr.alloc (.cells #[.int .i64 0, .int .i64 0, .int .i64 0] 70)).alloc (.cells #[.int .i64 0] 3)).alloc (.cells #[.func (.func 34) #[] #[.pointer (some ⟨w.heap.size + 1, 0, none⟩)]] 72)))
     rw [z2] at hL
     have kd := (d1.trans d2).trans d3
     have hKl : Bk (((wr.alloc (.cells #[.int .i64 0, .int .i64 0, .int .i64 0] 70)).alloc (.cells #[.int .i64 0] 3)).alloc (.cells #[.func (.func 34) #[] #[.pointer (some ⟨w.heap.size + 1, 0, none⟩)]] 72)) (w.heap.size + 1) [.string ⟨#[108]⟩] := HB.out.on kd
     have HKD := Lib.hid ((HWC.out.trans (Keeps.refl _ _)).step (HKw.out.trans kd.of_none) (fun g hg => .inr (by have e : g = w.heap.size + 1 := hg; omega)))
     have hSD : SlAt encStr S (((wr.alloc (.cells #[.int .i64 0, .int .i64 0, .int .i64 0] 70)).alloc (.cells #[.int .i64 0] 3)).alloc (.cells #[.func (.func 34) #[] #[.pointer (some ⟨w.heap.size + 1, 0, none⟩)]] 72)) (some ⟨vg, vo, none⟩) (c - 1) [⟨#[97]⟩] := HSub.out.keepN HKD.out
     have hED : Ex22 (((wr.alloc (.cells #[.int .i64 0, .int .i64 0, .int .i64 0] 70)).alloc (.cells #[.int .i64 0] 3)).alloc (.cells #[.func (.func 34) #[] #[.pointer (some ⟨w.heap.size + 1, 0, none⟩)]] 72)) L := Bk.on HE.out HKD.out
     have HEa := Lib.hid (each_ex _ wr.heap.size (wr.heap.size + 1) (wr.heap.size + 1 + 1) (w.heap.size + 1) L hSD hED hA hT hL hKl (HTb.out.on HKD.out) (by omega) (by omega) (by omega) (by omega) (by omega))
     unfold tellF at HEa
     have HRD := Lib.hid ((HRc.out.keep HKw.out (by show ¬ w.heap.size = w.heap.size + 1; omega)).on kd)
     clear d1 d2 d3 z1 z2 hA hT hL kd hKl hSD hED
     go_upto_region 21 with (go_at_call 14; go_loud (refine HEa.out.mono ?_); rintro e w6 ⟨rfl, hk6, hb6⟩)
     have ka : Keeps NoB w6 (w6.alloc (.cells #[.string ⟨#[50, 32, 97, 10]⟩, .string ⟨#[]⟩, .int .i64 0] 31)) := (Keeps.refl _ _).alloc _
     have hr := Bk.new (Keeps.refl NoB (w6.alloc (.cells #[.string ⟨#[50, 32, 97, 10]⟩, .string ⟨#[]⟩, .int .i64 0] 31)))
     have hs := ((HRD.out.keep hk6 (by show ¬ (w.heap.size = wr.heap.size ∨ w.heap.size = wr.heap.size + 1); omega)).on ka)
     have ht := hb6.on ka
     have t0 := ht.cell 0 _ rfl
     have tl := ht.lt
     have r0 := hr.cell 0 _ rfl
     have r1 := hr.cell 1 _ rfl
     have r2 := hr.cell 2 _ rfl
     have rl := hr.lt
     have s0 := hs.cell 0 _ rfl
     have s1 := hs.cell 1 _ rfl
     have s2 := hs.cell 2 _ rfl
     have sf := hs.fz
     have sl := hs.lt
     have HK7 := Lib.hid ((HKD.out.step hk6 (fun g hg => .inr (by rcases hg with h | h <;> omega))).trans ka)
     clear hr hs ht hk6 hb6 ka hw1
     generalize w6.alloc (.cells #[.string ⟨#[50, 32, 97, 10]⟩, .string ⟨#[]⟩, .int .i64 0] 31) = w7 at *
     generalize w6.heap.size = RB at *
     go_wp2_with fail
     refine bodyPost_ret (v := .agg #[.string ⟨#[50, 32, 97, 10]⟩, .string ⟨#[]⟩, .int .i64 0]) ?_ rfl ?_
     ·rw [results_cell_oneF rfl]; go_simp
     refine ⟨rfl, ?_⟩
     exact ((HK7.out.step (kset w7 ⟨w.heap.size, 0, none⟩ (.string ⟨#[50, 32, 97, 10]⟩)) (fun g hg => .inr (Nat.le_of_eq hg.symm))).step (kset _ ⟨w.heap.size, 1, none⟩ _) (fun g hg => .inr (Nat.le_of_eq hg.symm))).step (kset _ ⟨w.heap.size, 2, none⟩ _) (fun g hg => .inr (Nat.le_of_eq hg.symm))
end Go.Proofs.YtkdfgkbojbdelaaGreatDoor
namespace Go.Proofs.YtkdfgkbojbdelaaGreatDoor
open Go Go.Shelf Go.RowKit
def lays174_ren : Go.Shelf.Ren :=
{
 f := fun x =>
   match x with
   | 174 => 65
   | 247 => 93
   | 245 => 94
   | 287 => 118
   | 279 => 119
   | 280 => 120
   | 281 => 121
   | 282 => 122
   | 321 => 137
   | 322 => 138
   | 316 => 139
   | 171 => 35
   | 205 => 140
   | 243 => 57
   | 246 => 88
   | 283 => 109
   | 284 => 110
   | 285 => 111
   | 286 => 112
   | 129 => 130
   | 317 => 129
   | 318 => 131
   | 319 => 132
   | 320 => 133
   | 337 => 148
   | 338 => 149
   | n => n,
 t := fun x =>
   match x with
   | 9 => 9
   | 3 => 3
   | 2 => 2
   | 75 => 60
   | 85 => 96
   | 4 => 4
   | 167 => 152
   | 5 => 5
   | 53 => 40
   | 175 => 153
   | 46 => 123
   | 168 => 155
   | 37 => 28
   | 0 => 0
   | 210 => 179
   | 21 => 21
   | 127 => 89
   | 145 => 192
   | 143 => 190
   | 171 => 140
   | 173 => 143
   | 212 => 162
   | 51 => 41
   | 20 => 20
   | 213 => 163
   | 232 => 199
   | 233 => 200
   | 80 => 63
   | n => n,
 g := fun x =>
   match x with
   | 15 => 4
   | 16 => 5
   | 17 => 3
   | 18 => 6
   | 19 => 7
   | n => n }
theorem lays174 : LaysC.n174 Tryz.prog lays174_ren :=
{ mixed := Eq.refl true, f129 := Eq.trans Tryz.func130 (congrArg some (Eq.refl (Body.n129 lays174_ren))),
  f171 := Eq.trans Tryz.func35 (congrArg some (Eq.refl (Body.n171 lays174_ren))),
  f174 := Eq.trans Tryz.func65 (congrArg some (Eq.refl (Body.n174 lays174_ren))),
  f205 := Eq.trans Tryz.func140 (congrArg some (Eq.refl (Body.n205 lays174_ren))),
  f243 := Eq.trans Tryz.func57 (congrArg some (Eq.refl (Body.n243 lays174_ren))),
  f245 := Eq.trans Tryz.func94 (congrArg some (Eq.refl (Body.n245 lays174_ren))),
  f246 := Eq.trans Tryz.func88 (congrArg some (Eq.refl (Body.n246 lays174_ren))),
  f247 := Eq.trans Tryz.func93 (congrArg some (Eq.refl (Body.n247 lays174_ren))),
  f279 := Eq.trans Tryz.func119 (congrArg some (Eq.refl (Body.n279 lays174_ren))),
  f280 := Eq.trans Tryz.func120 (congrArg some (Eq.refl (Body.n280 lays174_ren))),
  f281 := Eq.trans Tryz.func121 (congrArg some (Eq.refl (Body.n281 lays174_ren))),
  f282 := Eq.trans Tryz.func122 (congrArg some (Eq.refl (Body.n282 lays174_ren))),
  f283 := Eq.trans Tryz.func109 (congrArg some (Eq.refl (Body.n283 lays174_ren))),
  f284 := Eq.trans Tryz.func110 (congrArg some (Eq.refl (Body.n284 lays174_ren))),
  f285 := Eq.trans Tryz.func111 (congrArg some (Eq.refl (Body.n285 lays174_ren))),
  f286 := Eq.trans Tryz.func112 (congrArg some (Eq.refl (Body.n286 lays174_ren))),
  f287 := Eq.trans Tryz.func118 (congrArg some (Eq.refl (Body.n287 lays174_ren))),
  f316 := Eq.trans Tryz.func139 (congrArg some (Eq.refl (Body.n316 lays174_ren))),
  f317 := Eq.trans Tryz.func129 (congrArg some (Eq.refl (Body.n317 lays174_ren))),
  f318 := Eq.trans Tryz.func131 (congrArg some (Eq.refl (Body.n318 lays174_ren))),
  f319 := Eq.trans Tryz.func132 (congrArg some (Eq.refl (Body.n319 lays174_ren))),
  f320 := Eq.trans Tryz.func133 (congrArg some (Eq.refl (Body.n320 lays174_ren))),
  f321 := Eq.trans Tryz.func137 (congrArg some (Eq.refl (Body.n321 lays174_ren))),
  f322 := Eq.trans Tryz.func138 (congrArg some (Eq.refl (Body.n322 lays174_ren))),
  f337 := Eq.trans Tryz.func148 (congrArg some (Eq.refl (Body.n337 lays174_ren))),
  f338 := Eq.trans Tryz.func149 (congrArg some (Eq.refl (Body.n338 lays174_ren))), t0 := Tryz.underlying0,
  a0 := Tryz.isAgg0, z0 := Tryz.sizeOf0, v0 := Tryz.zeroValue0, t2 := Tryz.underlying2, a2 := Tryz.isAgg2,
  z2 := Tryz.sizeOf2, v2 := Tryz.zeroValue2, t3 := Tryz.underlying3, a3 := Tryz.isAgg3, z3 := Tryz.sizeOf3,
  v3 := Tryz.zeroValue3, t4 := Tryz.underlying4, a4 := Tryz.isAgg4, z4 := Tryz.sizeOf4, v4 := Tryz.zeroValue4,
  t5 := Tryz.underlying5, a5 := Tryz.isAgg5, z5 := Tryz.sizeOf5, v5 := Tryz.zeroValue5, t9 := Tryz.underlying9,
  a9 := Tryz.isAgg9, z9 := Tryz.sizeOf9, v9 := Tryz.zeroValue9, t20 := Tryz.underlying20, a20 := Tryz.isAgg20,
  z20 := Tryz.sizeOf20, v20 := Tryz.zeroValue20, t21 := Tryz.underlying21, a21 := Tryz.isAgg21, z21 := Tryz.sizeOf21,
  v21 := Tryz.zeroValue21, t37 := Tryz.underlying28, a37 := Tryz.isAgg28, z37 := Tryz.sizeOf28, v37 := Tryz.zeroValue28,
  t46 := Tryz.underlying123, a46 := Tryz.isAgg123, z46 := Tryz.sizeOf123, v46 := Tryz.zeroValue123,
  t51 := Tryz.underlying41, a51 := Tryz.isAgg41, z51 := Tryz.sizeOf41, v51 := Tryz.zeroValue41,
  t53 := Tryz.underlying40, a53 := Tryz.isAgg40, z53 := Tryz.sizeOf40, v53 := Tryz.zeroValue40,
  t75 := Tryz.underlying60, a75 := Tryz.isAgg60, z75 := Tryz.sizeOf60, v75 := Tryz.zeroValue60,
  t85 := Tryz.underlying96, a85 := Tryz.isAgg96, z85 := Tryz.sizeOf96, v85 := Tryz.zeroValue96,
  t127 := Tryz.underlying89, a127 := Tryz.isAgg89, z127 := Tryz.sizeOf89, v127 := Tryz.zeroValue89,
  t143 := Tryz.underlying190, a143 := Tryz.isAgg190, z143 := Tryz.sizeOf190, v143 := Tryz.zeroValue190,
  t145 := Tryz.underlying192, a145 := Tryz.isAgg192, z145 := Tryz.sizeOf192, v145 := Tryz.zeroValue192,
  t167 := Tryz.underlying152, a167 := Tryz.isAgg152, z167 := Tryz.sizeOf152, v167 := Tryz.zeroValue152,
  t168 := Tryz.underlying155, a168 := Tryz.isAgg155, z168 := Tryz.sizeOf155, v168 := Tryz.zeroValue155,
  t171 := Tryz.underlying140, a171 := Tryz.isAgg140, z171 := Tryz.sizeOf140, v171 := Tryz.zeroValue140,
  t173 := Tryz.underlying143, a173 := Tryz.isAgg143, z173 := Tryz.sizeOf143, v173 := Tryz.zeroValue143,
  t175 := Tryz.underlying153, a175 := Tryz.isAgg153, z175 := Tryz.sizeOf153, v175 := Tryz.zeroValue153,
  t210 := Tryz.underlying179, a210 := Tryz.isAgg179, z210 := Tryz.sizeOf179, v210 := Tryz.zeroValue179,
  t212 := Tryz.underlying162, a212 := Tryz.isAgg162, z212 := Tryz.sizeOf162, v212 := Tryz.zeroValue162,
  t213 := Tryz.underlying163, a213 := Tryz.isAgg163, z213 := Tryz.sizeOf163, t232 := Tryz.underlying199,
  a232 := Tryz.isAgg199, z232 := Tryz.sizeOf199, v232 := Tryz.zeroValue199, t233 := Tryz.underlying200,
  a233 := Tryz.isAgg200, z233 := Tryz.sizeOf200, v233 := Tryz.zeroValue200, g15 := by kernel_rfl,
  g16 := by kernel_rfl, g17 := by kernel_rfl,
  g18 := by kernel_rfl, g19 := by kernel_rfl, t80 := Tryz.underlying63,
  a80 := Tryz.isAgg63, z80 := Tryz.sizeOf63, v80 := Tryz.zeroValue63,
  i0 := Eq.refl (some (some (Value.tuple #[]), 1, 0)), i2 := Eq.refl (some (some (Value.int IntKind.i64 0), 1, 8)),
  i3 := Eq.refl (some (some (Value.int IntKind.i64 0), 1, 8)), i4 := Eq.refl (some (some (Value.bool false), 1, 1)),
  i5 := Eq.refl (some (some (Value.int IntKind.u8 0), 1, 1)),
  i9 := Eq.refl (some (some (Value.string { data := #[] }), 1, 16)), i20 := Eq.refl (some (some Value.nilIface, 1, 16)),
  i21 := Eq.refl (some (some (Value.int IntKind.i32 0), 1, 4)),
  i37 := Eq.refl (some (some (Value.slice none 0 0), 1, 24)),
  i46 := Eq.refl (some (some (Value.int IntKind.u64 0), 1, 8)),
  i51 := Eq.refl (some (some (Value.int IntKind.u32 0), 1, 4)),
  i53 := Eq.refl (some (some (Value.int IntKind.u64 0), 1, 8)), i75 := Eq.refl (some (some Value.nilIface, 1, 16)),
  i80 := Eq.refl (some (some Value.nilFunc, 1, 8)),
  i85 := Eq.refl (some (some (Value.tuple #[Value.int IntKind.i64 0, Value.nilIface]), 1, 0)),
  i127 := Eq.refl (some (some (Value.pointer none), 1, 8)), i143 := Eq.refl (some (some (Value.pointer none), 1, 8)),
  i145 := Eq.refl (some (some (Value.agg #[Value.string { data := #[] }]), 1, 16)),
  i167 := Eq.refl (some (some (Value.int IntKind.i64 0), 1, 8)),
  i168 := Eq.refl (some (some (Value.pointer none), 1, 8)),
  i171 :=
   Eq.refl
    (some
      (some
        (Value.agg
          #[Value.int IntKind.u8 0, Value.int IntKind.u8 0, Value.int IntKind.u8 0, Value.int IntKind.u8 0,
            Value.int IntKind.u8 0, Value.int IntKind.u8 0, Value.int IntKind.u8 0, Value.int IntKind.u8 0,
            Value.int IntKind.u8 0, Value.int IntKind.u8 0, Value.int IntKind.u8 0, Value.int IntKind.u8 0,
            Value.int IntKind.u8 0, Value.int IntKind.u8 0, Value.int IntKind.u8 0, Value.int IntKind.u8 0,
            Value.int IntKind.u8 0, Value.int IntKind.u8 0, Value.int IntKind.u8 0, Value.int IntKind.u8 0,
            Value.int IntKind.u8 0, Value.int IntKind.u8 0, Value.int IntKind.u8 0, Value.int IntKind.u8 0]),
        24, 24)),
  i173 := Eq.refl (some (some (Value.tuple #[Value.slice none 0 0, Value.string { data := #[] }]), 1, 0)),
  i175 := Eq.refl (some (some (Value.tuple #[Value.int IntKind.u64 0, Value.nilIface]), 1, 0)),
  i210 :=
   Eq.refl
    (some (some (Value.agg #[Value.string { data := #[] }, Value.string { data := #[] }, Value.nilIface]), 3, 48)),
  i212 :=
   Eq.refl
    (some
      (some
        (Value.agg
          #[Value.int IntKind.u64 0, Value.int IntKind.u64 0, Value.int IntKind.u64 0, Value.int IntKind.u64 0,
            Value.int IntKind.u64 0, Value.int IntKind.u64 0, Value.int IntKind.u64 0, Value.int IntKind.u64 0,
            Value.int IntKind.u64 0, Value.int IntKind.u64 0, Value.int IntKind.u64 0, Value.int IntKind.u64 0,
            Value.int IntKind.u64 0, Value.int IntKind.u64 0, Value.int IntKind.u64 0, Value.int IntKind.u64 0,
            Value.int IntKind.u64 0, Value.int IntKind.u64 0, Value.int IntKind.u64 0, Value.int IntKind.u64 0]),
        20, 160)),
  i232 :=
   Eq.refl
    (some
      (some
        (Value.agg
          #[Value.int IntKind.u8 0, Value.int IntKind.u8 0, Value.int IntKind.u8 0, Value.int IntKind.u8 0,
            Value.int IntKind.u8 0, Value.int IntKind.u8 0, Value.int IntKind.u8 0, Value.int IntKind.u8 0,
            Value.int IntKind.u8 0, Value.int IntKind.u8 0, Value.int IntKind.u8 0, Value.int IntKind.u8 0,
            Value.int IntKind.u8 0, Value.int IntKind.u8 0, Value.int IntKind.u8 0, Value.int IntKind.u8 0,
            Value.int IntKind.u8 0, Value.int IntKind.u8 0, Value.int IntKind.u8 0, Value.int IntKind.u8 0,
            Value.int IntKind.u8 0, Value.int IntKind.u8 0, Value.int IntKind.u8 0, Value.int IntKind.u8 0,
            Value.int IntKind.u8 0, Value.int IntKind.u8 0, Value.int IntKind.u8 0, Value.int IntKind.u8 0,
            Value.int IntKind.u8 0, Value.int IntKind.u8 0, Value.int IntKind.u8 0, Value.int IntKind.u8 0]),
        32, 32)),
  i233 :=
   Eq.refl
    (some
      (some
        (Value.agg
          (let y :=
            let y :=
             let y :=
              let y :=
               [Value.int IntKind.u8 0, Value.int IntKind.u8 0, Value.int IntKind.u8 0,
                 Value.int IntKind.u8 0];
              Value.int IntKind.u8 0 ::
               Value.int IntKind.u8 0 :: Value.int IntKind.u8 0 :: Value.int IntKind.u8 0 :: y;
             let y :=
              Value.int IntKind.u8 0 ::
               Value.int IntKind.u8 0 :: Value.int IntKind.u8 0 :: Value.int IntKind.u8 0 :: y;
             Value.int IntKind.u8 0 ::
              Value.int IntKind.u8 0 :: Value.int IntKind.u8 0 :: Value.int IntKind.u8 0 :: y;
            let y :=
             let y :=
              Value.int IntKind.u8 0 ::
               Value.int IntKind.u8 0 :: Value.int IntKind.u8 0 :: Value.int IntKind.u8 0 :: y;
             Value.int IntKind.u8 0 ::
              Value.int IntKind.u8 0 :: Value.int IntKind.u8 0 :: Value.int IntKind.u8 0 :: y;
            let y :=
             Value.int IntKind.u8 0 ::
              Value.int IntKind.u8 0 :: Value.int IntKind.u8 0 :: Value.int IntKind.u8 0 :: y;
            Value.int IntKind.u8 0 ::
             Value.int IntKind.u8 0 :: Value.int IntKind.u8 0 :: Value.int IntKind.u8 0 :: y;
            let y :=
             let y :=
              let y :=
               Value.int IntKind.u8 0 ::
                Value.int IntKind.u8 0 :: Value.int IntKind.u8 0 :: Value.int IntKind.u8 0 :: y;
              Value.int IntKind.u8 0 ::
               Value.int IntKind.u8 0 :: Value.int IntKind.u8 0 :: Value.int IntKind.u8 0 :: y;
             let y :=
              Value.int IntKind.u8 0 ::
               Value.int IntKind.u8 0 :: Value.int IntKind.u8 0 :: Value.int IntKind.u8 0 :: y;
             Value.int IntKind.u8 0 ::
              Value.int IntKind.u8 0 :: Value.int IntKind.u8 0 :: Value.int IntKind.u8 0 :: y;
            let y :=
             let y :=
              Value.int IntKind.u8 0 ::
               Value.int IntKind.u8 0 :: Value.int IntKind.u8 0 :: Value.int IntKind.u8 0 :: y;
             Value.int IntKind.u8 0 ::
              Value.int IntKind.u8 0 :: Value.int IntKind.u8 0 :: Value.int IntKind.u8 0 :: y;
            let y :=
             Value.int IntKind.u8 0 ::
              Value.int IntKind.u8 0 :: Value.int IntKind.u8 0 :: Value.int IntKind.u8 0 :: y;
            Value.int IntKind.u8 0 ::
             Value.int IntKind.u8 0 :: Value.int IntKind.u8 0 :: Value.int IntKind.u8 0 :: y).toArray),
        64, 64)),
  m15 := Eq.refl (some (lays174_ren.g 15)), m16 := Eq.refl (some (lays174_ren.g 16)),
  m17 := Eq.refl (some (lays174_ren.g 17)), m18 := Eq.refl (some (lays174_ren.g 18)),
  m19 := Eq.refl (some (lays174_ren.g 19)), c0 := Eq.refl (some false), c2 := Eq.refl (some true),
  c3 := Eq.refl (some true), c4 := Eq.refl (some true), c5 := Eq.refl (some true), c9 := Eq.refl (some true),
  c20 := Eq.refl (some true), c21 := Eq.refl (some true), c37 := Eq.refl (some false), c46 := Eq.refl (some true),
  c51 := Eq.refl (some true), c53 := Eq.refl (some true), c75 := Eq.refl (some true), c80 := Eq.refl (some false),
  c85 := Eq.refl (some false), c127 := Eq.refl (some true), c143 := Eq.refl (some true), c145 := Eq.refl (some true),
  c167 := Eq.refl (some true), c168 := Eq.refl (some true), c171 := Eq.refl (some true), c173 := Eq.refl (some false),
  c175 := Eq.refl (some false), c210 := Eq.refl (some true), c212 := Eq.refl (some true), c213 := Eq.refl (some true),
  c232 := Eq.refl (some true), c233 := Eq.refl (some true) }
end Go.Proofs.YtkdfgkbojbdelaaGreatDoor
set_option maxHeartbeats 8000000
namespace Go.Proofs.YtkdfgkbojbdelaaGreatDoor
open Go Go.RowKit
theorem parse_one (c : UInt8) (v : Int) (w : World) (h : Lib.parseIntB 64 [c] = .ok v) : Calls Tryz.prog 65 #[.string ⟨#[c]⟩, .int .i64 10, .int .i64 64] w fun e w' => e = .returned (.tuple #[.int .i64 v, .nilIface]) ∧ Keeps NoB w w' := by
 refine (Any.strconv_ParseInt_10_at64_ok lays174 ⟨#[c]⟩ (by show 1 <= _; decide) v h w).mono ?_
 rintro e w' ⟨rfl, rfl | ⟨t, rfl⟩⟩
 ·exact ⟨rfl, Keeps.refl _ _⟩
 ·refine ⟨rfl, ⟨?_, ?_, ?_, ?_, fun k hk _ => Lib.bytesWorld_at_old w 5 t k hk⟩⟩
  ·simp [Lib.bytesWorld, World.freeze]; rfl
  ·simp [Lib.bytesWorld, World.freeze]
  ·simp [Lib.bytesWorld, World.freeze]; rfl
  ·rw [Lib.bytesWorld_size]; omega
set_option maxHeartbeats 4000000
def inOf (s : ByteArray) : Value := .iface 27 (.agg #[.string s, .int .i64 0, .slice none 0 0])
theorem input_any (s : ByteArray) (w : World) : Calls Tryz.prog 180 #[.agg #[.string s, .int .i64 0, .slice none 0 0]] w fun e w' => e = .returned (.tuple #[.string s, .int .i64 0]) ∧ Keeps NoB w w' := by
 go_enter Tryz.func180, Tryz.ntmps180
 go_wp2
 go_ret2
 exact ⟨rfl, (Keeps.refl _ _).alloc _⟩
theorem each_none (nm s : ByteArray) (w : World) (N M R B : Nat) (p : Option Addr) (c : Nat) (P : ByteArray -> Prop)
 (hc : ∀ w4, Keeps NoB w w4 -> Calls Tryz.prog 41 #[.string s, .string ⟨#[]⟩, .pointer (some ⟨N, 0, none⟩), .pointer (some ⟨M, 0, none⟩), .pointer (some ⟨R, 0, none⟩), .pointer (some ⟨B, 0, none⟩)] w4 fun e w' => ∃ t, e = .returned (.string t) ∧ P t ∧ w4 = w') :
 Calls Tryz.prog 14 #[.string nm, .slice p 0 c, inOf s, .func (.func 41) #[] #[.pointer (some ⟨N, 0, none⟩), .pointer (some ⟨M, 0, none⟩), .pointer (some ⟨R, 0, none⟩), .pointer (some ⟨B, 0, none⟩)]] w fun e w' => ∃ t, e = .returned (.agg #[.string t, .string ⟨#[]⟩, .int .i64 0]) ∧ P t ∧ Keeps NoB w w' := by
 have k1 : Keeps NoB w (w.alloc (.cells #[.string ⟨#[]⟩, .string ⟨#[]⟩, .int .i64 0] 31)) := (Keeps.refl _ _).alloc _
 have k2 : Keeps NoB (w.alloc (.cells #[.string ⟨#[]⟩, .string ⟨#[]⟩, .int .i64 0] 31)) ((w.alloc (.cells #[.string ⟨#[]⟩, .string ⟨#[]⟩, .int .i64 0] 31)).alloc (.cells #[.string ⟨#[]⟩, .string ⟨#[]⟩, .int .i64 0] 31)) := (Keeps.refl _ _).alloc _
 have HR0 := Lib.hid (Bk.new k2)
 have HK2 := Lib.hid (k1.trans k2)
 have HIn := Lib.hid (fun w1 : World => input_any s w1)
 have HC := Lib.hid hc
 clear k1 k2 hc
 unfold inOf
 go_enter Tryz.func14, Tryz.ntmps14
 go_wp2_with (first | (go_at_call 180; go_loud (refine (HIn.out _).mono ?_); rintro e w4 ⟨rfl, hk4⟩) | (go_at_call 41; go_loud (refine (HC.out _ (HK2.out.trans hk4)).mono ?_); rintro e w5 ⟨t, rfl, hpt, rfl⟩; have hb := HR0.out.on hk4; have r0 := hb.cell 0 _ rfl; have r1 := hb.cell 1 _ rfl; have r2 := hb.cell 2 _ rfl; have rf := hb.fz; have rl := hb.lt))
 refine bodyPost_ret (v := .agg #[.string t, .string ⟨#[]⟩, .int .i64 0]) ?_ rfl ?_
 ·rw [results_cell_oneF rfl]; go_simp
 refine ⟨t, rfl, hpt, ?_⟩
 have k := HK2.out.trans hk4
 exact ((k.step (kset _ ⟨w.heap.size, 0, none⟩ _) (fun g hg => .inr (Nat.le_of_eq hg.symm))).step (kset _ ⟨w.heap.size, 1, none⟩ _) (fun g hg => .inr (Nat.le_of_eq hg.symm))).step (kset _ ⟨w.heap.size, 2, none⟩ _) (fun g hg => .inr (Nat.le_of_eq hg.symm))
theorem letter_digit (z : Int) (h1 : 48 <= z) (h2 : z <= 57) (w : World) : Calls Tryz.prog 64 #[.int .u8 z] w fun e w' => e = .returned (.bool true) ∧ w = w' := by
 go_enter Tryz.func64, Tryz.ntmps64
 go_wp2
 go_ret
 exact ⟨rfl, rfl⟩
theorem parse_digs : ∀ d : Fin 10, Lib.parseIntB 64 [(48 + d.val).toUInt8] = .ok (d.val : Int) := by decide
theorem digit_any (d : Nat) (hd : d <= 9) (w : World) : Calls Tryz.prog 40 #[.string (dgB d)] w fun e w' => e = .returned (.tuple #[.int .i64 (d : Int), .bool true]) ∧ Keeps NoB w w' := by
 have HP := Lib.hid (fun w1 : World => parse_one ((48 + d).toUInt8) d w1 (parse_digs ⟨d, by omega⟩))
 rw [show (⟨#[(48 + d).toUInt8]⟩ : ByteArray) = dgB d from rfl] at HP
 have hz : (dgB d).size = 1 := rfl
 have hl : (dgB d).data.toList = [(48 + d).toUInt8] := rfl
 have hconv := fun wx => Lib.run_convert_string_bytes (P := Tryz.prog) wx 9 28 5 (dgB d) Tryz.underlying9 Tryz.underlying28 Tryz.underlying5
 obtain ⟨hsl, hkc⟩ := conv_sl w (dgB d) (by rw [hz]; decide)
 have hn : ((48 + d).toUInt8.toNat : Int) = 48 + d := by
  have : (48 + d).toUInt8.toNat = (48 + d) % 256 := rfl
  rw [this]; omega
 have t0 : (Lib.bytesWorld w 5 (dgB d)).cell? ⟨w.heap.size, 0, none⟩ = some (.int .u8 (48 + (d : Int))) := by
  obtain ⟨g, off, e, _, _, hcc⟩ := hsl.at (i := 0) (x := (48 + d).toUInt8) rfl
  cases e
  have := hcc 0 _ rfl
  rw [<- hn]
  simpa [encU8] using this
 have HLt := Lib.hid (fun w1 : World => letter_digit (48 + (d : Int)) (by omega) (by omega) w1)
 have hcp := hsl.cap
 have hmx := hsl.max
 unfold maxLen at hmx
 rw [hl] at hcp
 have HK := Lib.hid hkc
 clear hsl hkc hl hn hd
 generalize dgB d = x at *
 go_enter Tryz.func40, Tryz.ntmps40
 go_upto_region 7 with fail
 clear hconv
 generalize grownCap w 1 0 5 = cp at *
 generalize Lib.bytesWorld w 5 x = w2 at *
 go_loop [39] (fun i => i = .int .i64 0 ∨ i = .int .i64 1) (fun i => 2 - (intOf i).toNat)
 case atStart => exact .inl rfl
 case round =>
  rcases hrel with rfl | rfl
  ·go_wp2_with (go_at_call 64; go_loud (refine (HLt.out _).mono ?_); rintro e w3 ⟨rfl, rfl⟩)
   go_round
   case rel => exact .inr (by go_num)
   case measure => simp [intOf]
  ·go_wp2_with (go_at_call 65; go_loud (refine (HP.out _).mono ?_); rintro e w3 ⟨rfl, hk3⟩)
   go_ret2
   exact ⟨rfl, HK.out.trans hk3⟩
end Go.Proofs.YtkdfgkbojbdelaaGreatDoor
