/-
  append(v, s...) onto a row of bytes that is owned; a part of it as a string.
-/
import Derived.Test.YtbmalnllppamdaaGreatDoorB02
import Derived.Test.YtbmalnllppamdaaGreatDoorB03
import Derived.Lib.AppendStr
import Derived.Test.YtbmalnllppamdaaGreatDoorProg
import Derived.Test.YtbmalnllppamdaaGreatDoorC02
import Derived.BigQuiet
import Derived.Deep.QuietTactic

set_option linter.unusedSimpArgs false
set_option linter.unusedVariables false

set_option maxRecDepth 100000
namespace Go.Proofs.YtbmalnllppamdaaGreatDoor
open Go Go.RowKit Go.Lib

variable {S : Nat → Prop} {w : World} {v : Value} {s : ByteArray}

theorem append_get (s x : ByteArray) (j : Nat) (b : UInt8) (h : (s ++ x).data.toList[j]? = some b) : (j < s.size ∧ s.data.toList[j]? = some b) ∨ (s.size ≤ j ∧ x.data.toList[j - s.size]? = some b) := by
  have e : (s ++ x).data.toList = s.data.toList ++ x.data.toList := by simp
  have hl : s.data.toList.length = s.size := (Lib.size_eq s).symm
  rw [e] at h
  by_cases hj : j < s.size
  · rw [List.getElem?_append_left (by omega)] at h
    exact .inl ⟨hj, h⟩
  · rw [List.getElem?_append_right (by omega), hl] at h
    exact .inr ⟨by omega, h⟩

/-- append(v, x...), x a string. -/
theorem OwnB.app {P : Program} {t u e : TypeId} {i : TypeInfo} (ty : TypeId) (h : OwnB S w v s) (ht : P.underlying t = some (.slice e)) (hu : P.underlying u = some .string) (hi : P.info? e = some i) (hz : i.zero = some (.int .u8 0))
    (his : i.size = 1) (hib : i.bytes = 1) (x : ByteArray) (hk : s.size + x.size ≤ 4294967296) (hS : S w.heap.size) :
    ∃ v' w', (Builtin.append_ #[t, u] ty #[v, .string x]).run P w = .ok v' w' ∧ OwnB S w' v' (s ++ x) ∧ Keeps (fun g => v.ownBlock = some g) w w' ∧
      (∀ g, v'.ownBlock = some g → v.ownBlock = some g ∨ w.heap.size ≤ g) := by
  have hsz : (s ++ x).size = s.size + x.size := ByteArray.size_append
  have hlen : s.data.toList.length = s.size := (Lib.size_eq s).symm
  have hxl : (strCells x).length = x.size := strCells_length x
  have hsl : (strCells s).length = s.size := strCells_length s
  have hxg : ∀ (j : Nat) (b : UInt8), x.data.toList[j]? = some b → (strCells x)[j]? = some (Go.Value.int Go.IntKind.u8 (b.toNat : Int)) := fun j b hb => by unfold strCells; rw [List.getElem?_map, hb]; rfl
  have hsg : ∀ (j : Nat) (b : UInt8), s.data.toList[j]? = some b → (strCells s)[j]? = some (Go.Value.int Go.IntKind.u8 (b.toNat : Int)) := fun j b hb => by unfold strCells; rw [List.getElem?_map, hb]; rfl
  have hnew : ∀ (old : Nat), (hlt : old < s.size + x.size) → ∀ (C : Array Value), C.toList = strCells s ++ strCells x ++ List.replicate (grownCap w (s.size + x.size) old e - (s.size + x.size)) (.int .u8 0) →
      OwnB S (w.drew.alloc (.cells C e)) (.slice (some ⟨w.heap.size, 0, none⟩) (s.size + x.size) (grownCap w (s.size + x.size) old e)) (s ++ x) := by
    intro old hlt C hCl
    have hge := grownCap_ge w (s.size + x.size) old e
    have hle := grownCap_le_maxLen w (s.size + x.size) old e (by simp only [maxLen]; omega)
    have hCs : C.size = grownCap w (s.size + x.size) old e := by
      rw [← Array.length_toList, hCl]; simp only [List.length_append, List.length_replicate, hxl, hsl]; omega
    have hn := heap_alloc_new w.drew (.cells C e)
    refine .inr ⟨w.heap.size, _, by rw [hsz], hS, by simp, by omega, hle, fun j hj => ?_, fun j hj => ?_, fun j b hb => ?_⟩
    · have hn' : (w.drew.alloc (.cells C e)).heap[w.heap.size]? = some (.cells C e (0, 0)) := hn
      rw [cell_of_row _ _ _ C e (0, 0) hn']; simp [hCs, hj]
    · exact frozen_of_row _ _ _ C e hn
    · have hn' : (w.drew.alloc (.cells C e)).heap[w.heap.size]? = some (.cells C e (0, 0)) := hn
      rw [cell_of_row _ _ _ C e (0, 0) hn', ← Array.getElem?_toList, hCl]
      rcases append_get s x j b hb with ⟨h1, h2⟩ | ⟨h1, h2⟩
      · rw [List.append_assoc, List.getElem?_append_left (by rw [hsl]; exact h1)]; exact hsg j b h2
      · have hj := (List.getElem?_eq_some_iff.1 h2).1
        have hj2 : j - s.size < x.size := by rw [Lib.size_eq]; exact hj
        rw [List.getElem?_append_left (by rw [List.length_append, hsl, hxl]; omega), List.getElem?_append_right (by rw [hsl]; exact h1), hsl]
        exact hxg _ b h2
  rcases h with ⟨rfl, h⟩ | ⟨g, cap, rfl, h1, h2, h3, h4, h5, h6, h7⟩
  · have : s = ⟨#[]⟩ := ByteArray.ext (Array.eq_empty_of_size_eq_zero h)
    subst this
    have e0 : (⟨#[]⟩ : ByteArray) ++ x = x := by apply eq_of_data; simp
    rw [e0]
    by_cases h0 : x.size = 0
    · have hx : x = ⟨#[]⟩ := ByteArray.ext (Array.eq_empty_of_size_eq_zero h0)
      subst hx
      refine ⟨.slice none 0 0, w, ?_, .inl ⟨rfl, h0⟩, Keeps.refl _ w, fun g hg => .inl hg⟩
      have hf := run_firstCells_string (P := P) w 1 ⟨#[]⟩
      rw [h0] at hf
      simp [Builtin.append_, run_underlying ht, run_underlying hu, sizeOf, typeInfo, hi, his, Builtin.lenOf, h0, hf]
    · have hr := run_append_nil_string (P := P) w t u ty e i (.int .u8 0) ht hu hi hz x (by omega) (by omega) (by rw [hib]; omega)
      have hw := hnew 0 (by omega) ((x.data.map fun b => Value.int .u8 b.toNat) ++ Builtin.zeroCells (Value.int .u8 0).cells (grownCap w x.size 0 e - x.size)) (by
        have e1 : (⟨#[]⟩ : ByteArray).size = 0 := rfl
        rw [e1, Nat.zero_add, Array.toList_append, zeroCells_u8]
        simp [strCells])
      rw [show (⟨#[]⟩ : ByteArray).size = 0 from rfl, Nat.zero_add, e0] at hw
      exact ⟨_, _, hr, hw, ((Keeps.refl _ w).drew).alloc _, fun g hg => by simp [Value.ownBlock] at hg; right; omega⟩
  · by_cases hroom : s.size + x.size ≤ cap
    · refine ⟨.slice (some ⟨g, 0, none⟩) (s.size + x.size) cap, w.setCells g s.size (strCells x), ?_, .inr ⟨g, cap, by rw [hsz], h1, by rw [size_setCells']; exact h2, by omega, h4, fun j hj => World.isSome_setCells _ _ _ _ _ (h5 j hj), fun j hj => ?_, fun j b hb => ?_⟩, ?_, fun g' hg => .inl hg⟩
      · have hst := run_storeCells_cells (P := P) g s.size (strCells x) 0 w (fun j hj => h5 _ (by rw [hxl] at hj; omega)) (fun j hj => h6 _ (by rw [hxl] at hj; omega)) (fun v hv => strCells_oneCell x v hv)
        rw [Nat.add_zero] at hst
        have hf := run_firstCells_string (P := P) w 1 x
        simp [Builtin.append_, run_underlying ht, run_underlying hu, sizeOf, typeInfo, hi, his, Builtin.lenOf, hroom, hf, add_lit, hst]
      · rw [World.frozen?_setCells]; exact h6 j hj
      · rcases append_get s x j b hb with ⟨h8, h9⟩ | ⟨h8, h9⟩
        · rw [World.cell?_setCells_out _ _ _ _ _ (fun _ _ => .inl h8)]; exact h7 j b h9
        · have hj := (List.getElem?_eq_some_iff.1 h9).1
          have hj2 : j - s.size < x.size := by rw [Lib.size_eq]; exact hj
          have := World.cell?_setCells_in g (strCells x) s.size w (fun j hj => h5 _ (by rw [hxl] at hj; omega)) (j - s.size) (by rw [hxl]; omega)
          rw [show s.size + (j - s.size) = j by omega] at this
          rw [this]
          have h10 := hxg _ b h9
          rwa [List.getElem?_eq_getElem (by rw [hxl]; omega)] at h10
      · exact Keeps.setCells (g := g) (Keeps.refl (fun g' => (Value.slice (some ⟨g, 0, none⟩) s.size cap).ownBlock = some g') w) (Or.inl (by rfl)) _ _
    · have hr := run_append_grow_string (P := P) w t u ty e i (.int .u8 0) ht hu hi hz ⟨g, 0, none⟩ s.size cap (strCells s) (by rw [his, hsl, Nat.mul_one]) (fun j u' hu' => by
        unfold strCells at hu'
        rw [List.getElem?_map] at hu'
        cases hb : s.data.toList[j]? with
        | none => rw [hb] at hu'; cases hu'
        | some b => rw [hb] at hu'; rw [add_lit, Nat.zero_add, h7 j b hb]; exact hu') x (by omega) (by omega) (by rw [hib]; exact growslice_fits (by omega) (by omega))
      have hw := hnew cap (by omega) ((strCells s).toArray ++ (strCells x).toArray ++ Builtin.zeroCells (Value.int .u8 0).cells (grownCap w (s.size + x.size) cap e - (s.size + x.size))) (by
        rw [Array.toList_append, Array.toList_append, zeroCells_u8])
      exact ⟨_, _, hr, hw, ((Keeps.refl _ w).drew).alloc _, fun g' hg => by simp [Value.ownBlock] at hg; right; omega⟩

/-- string(v[i:j]). -/
theorem OwnB.part {P : Program} (h : OwnB S w v s) (src dst e : TypeId) (hs : P.underlying src = some (.slice e)) (he : P.underlying e = some (.int .u8)) (hd : P.underlying dst = some .string) {i j : Nat} (hij : i ≤ j) (hj : j ≤ s.size) {p : Option Addr} {cap : Nat} (hv : v = .slice p s.size cap) (c : Nat) :
    (convert src dst (.slice (subAt 1 p cap i) (j - i) c)).run P w = .ok (.string (s.extract i j)) w := by
  rcases h with ⟨rfl, h⟩ | ⟨g, cp, rfl, h1, h2, h3, h4, h5, h6, h7⟩
  · have e1 : s = ⟨#[]⟩ := ByteArray.ext (Array.eq_empty_of_size_eq_zero h)
    subst e1
    cases hv
    have hj0 : j = 0 := Nat.le_zero.1 hj
    subst hj0
    have hi0 : i = 0 := Nat.le_zero.1 hij
    subst hi0
    have e2 : subAt 1 none 0 0 = none := rfl
    rw [e2, Nat.sub_zero, run_convert_bytes_string w src dst e none 0 c hs he hd]
    rfl
  · cases hv
    have hlen : s.data.toList.length = s.size := (Lib.size_eq s).symm
    obtain ⟨l, hl⟩ : ∃ l, (s.data.toList.drop i).take (j - i) = l := ⟨_, rfl⟩
    have hll : l.length = j - i := by rw [← hl, List.length_take, List.length_drop, hlen]; omega
    have hx : s.extract i j = ⟨l.toArray⟩ := by
      apply eq_of_data
      rw [← hl]
      simp only [ByteArray.data_extract, Array.toList_extract, List.extract]
    have hget : ∀ k (hk : k < l.length), w.cell? ⟨g, i + k, none⟩ = some (.int .u8 (l[k].toNat : Int)) := fun k hk => by
      refine h7 (i + k) l[k] ?_
      have e4 : l[k]? = s.data.toList[i + k]? := by rw [← hl, List.getElem?_take, if_pos (by omega), List.getElem?_drop]
      exact e4.symm.trans (List.getElem?_eq_getElem hk)
    rw [hx, ← hll]
    unfold subAt
    by_cases hc : cap = i
    · rw [if_pos hc]
      have hl0 : l = [] := List.eq_nil_of_length_eq_zero (by omega)
      subst hl0
      exact run_convert_bytes_back (P := P) w src dst e ⟨g, 0, none⟩ c [] hs he hd (fun k hk => by cases hk)
    · rw [if_neg hc]
      have e3 : (some (⟨g, 0, none⟩ : Addr)).map (·.add (i * 1)) = some ⟨g, i, none⟩ := by simp [add_lit]
      rw [e3]
      refine run_convert_bytes_back (P := P) w src dst e ⟨g, i, none⟩ c l hs he hd (fun k hk => ?_)
      rw [add_lit]
      exact hget k hk

end Go.Proofs.YtbmalnllppamdaaGreatDoor

/-
  Contracts of pipes: NewPipe, Left, Read, Write.
-/
set_option maxRecDepth 100000
set_option maxHeartbeats 4000000
namespace Go.Proofs.YtbmalnllppamdaaGreatDoor
open Go Go.RowKit

/-- A pipe lies in memory: its bytes, and how many have been read. -/
structure PipeAt (S : Nat → Prop) (w : World) (q : Nat) (s : ByteArray) (at' : Nat) : Prop where
  ex : ∃ v, w.cell? ⟨q, 0, none⟩ = some v ∧ OwnB (fun g => S g ∧ g ≠ q) w v s
  c1 : w.cell? ⟨q, 1, none⟩ = some (.int .i64 at')
  fz : ∀ j, w.frozen? ⟨q, j, none⟩ = false
  lt : q < w.heap.size
  inS : S q
  le : at' ≤ s.size
  small : s.size ≤ 2147483648

section
variable {S : Nat → Prop} {w w' : World} {q : Nat} {s : ByteArray} {at' : Nat}

theorem PipeAt.keep {F : Nat → Prop} (h : PipeAt S w q s at') (k : Keeps F w w') (hF : ∀ g, S g → ¬ F g) : PipeAt S w' q s at' := by
  obtain ⟨v, h0, ho⟩ := h.ex
  exact ⟨⟨v, (k.cell (p := ⟨q, 0, none⟩) h.lt (hF q h.inS)).trans h0, ho.keep k (fun g hg => hF g (ho.inS g hg).1)⟩, (k.cell (p := ⟨q, 1, none⟩) h.lt (hF q h.inS)).trans h.c1,
    fun j => (k.frozen (p := ⟨q, j, none⟩) h.lt (hF q h.inS)).trans (h.fz j), Nat.lt_of_lt_of_le h.lt k.size, h.inS, h.le, h.small⟩
theorem PipeAt.on (h : PipeAt S w q s at') (k : Keeps NoB w w') : PipeAt S w' q s at' := h.keep k (fun _ _ h => h)

/-- What has been read is counted. -/
theorem PipeAt.count (h : PipeAt S w q s at') {m : Nat} (hm : m ≤ s.size) : PipeAt S (w.setCell ⟨q, 1, none⟩ (.int .i64 (m : Int))) q s m := by
  obtain ⟨v, h0, ho⟩ := h.ex
  have k := keeps_set w ⟨q, 1, none⟩ (.int .i64 (m : Int))
  have a0 := cell_set (g := q) (k := 1) (u := .int .i64 (m : Int)) (j := 0) h0
  have a1 := cell_set (g := q) (k := 1) (u := .int .i64 (m : Int)) (j := 1) h.c1
  rw [if_neg (by decide)] at a0
  rw [if_pos rfl] at a1
  exact ⟨⟨v, a0, ho.keep k (fun g hg hx => (ho.inS g hg).2 hx)⟩, a1, fun j => (frozen_set _ _ _ _).trans (h.fz j), by simpa using h.lt, h.inS, hm, h.small⟩

theorem OwnB.caps {T : Nat → Prop} {p : Option Addr} {n cap : Nat} (h : OwnB T w (.slice p n cap) s) (hn : n = s.size) : s.size ≤ cap ∧ cap ≤ 9223372036854775807 := by
  rcases h with ⟨h, h0⟩ | ⟨g, c, h, h1, h2, h3, h4, _⟩
  · cases h; omega
  · cases h; unfold maxLen at h4; omega

theorem pipeNew_any (w : World) (s : ByteArray) (hs : s.size ≤ 2147483648) :
    Calls Tryz.prog 93 #[.string s] w fun e w' => ∃ q, e = .returned (.pointer (some ⟨q, 0, none⟩)) ∧ PipeAt (fun g => w.heap.size ≤ g) w' q s 0 ∧ Keeps NoB w w' := by
  have hconv := fun wx => Lib.run_convert_string_bytes (P := Tryz.prog) wx 9 187 5 s Tryz.underlying9 Tryz.underlying187 Tryz.underlying5
  have hO := OwnB.conv (S := fun g => w.heap.size ≤ g ∧ g ≠ (Lib.bytesWorld w 5 s).heap.size) w 5 s ⟨Nat.le_refl _, by rw [Lib.bytesWorld_size]; omega⟩ (by unfold maxLen; omega)
  have hsz := Lib.bytesWorld_size w 5 s
  have HO := Lib.hid hO
  clear hO
  go_enter Tryz.func93, Tryz.ntmps93
  go_wp2
  go_ret
  obtain ⟨h1, h2⟩ := HO.out
  have kb := Keeps.refl NoB ((Lib.bytesWorld w 5 s).alloc (.cells #[.slice (some ⟨w.heap.size, 0, none⟩) s.size (grownCap w s.size 0 5), .int .i64 0] 198))
  have c0 := boxed kb 0 _ rfl
  have c1 := boxed kb 1 _ rfl
  have cz := boxedz kb
  rw [hsz] at c0 c1
  refine ⟨w.heap.size + 1, rfl, ⟨⟨_, c0, (h1.keep ((Keeps.refl NoB _).alloc _) (fun _ _ h => h)).mono (fun g _ hg => by rw [hsz] at hg; exact hg)⟩, c1, fun j => by have := cz j; rw [hsz] at this; exact this, by simp [hsz], by omega, Nat.zero_le _, hs⟩, h2.alloc _⟩

/-- How many bytes are read. -/
def rdN (s : ByteArray) (at' : Nat) (most : Int) : Nat := min most.toNat (s.size - at')

theorem pipeRead_any (h : PipeAt S w q s at') (most : Int) :
    Calls Tryz.prog 113 #[.pointer (some ⟨q, 0, none⟩), .int .i64 most] w fun e w' =>
      e = .returned (.string (s.extract at' (at' + rdN s at' most))) ∧ PipeAt S w' q s (at' + rdN s at' most) ∧ Keeps (fun g => g = q) w w' := by
  obtain ⟨v, c0, ho⟩ := h.ex
  have c1 := h.c1
  have hl := h.lt
  have hle := h.le
  have hsm := h.small
  have hfz := h.fz
  obtain ⟨p, cap, rfl⟩ := ho.form
  obtain ⟨hcp1, hcp2⟩ := ho.caps rfl
  have hwr : IntKind.i64.wrap ((s.size : Int) - (at' : Int)) = ((s.size - at' : Nat) : Int) := by rw [IntKind.wrap_i64]; omega
  obtain ⟨n, hn⟩ : ∃ n, rdN s at' most = n := ⟨_, rfl⟩
  have hnl : n ≤ s.size - at' := by rw [← hn]; exact Nat.min_le_right _ _
  have hmn : min (max most 0) ((s.size - at' : Nat) : Int) = (n : Int) := by rw [← hn]; unfold rdN; omega
  obtain ⟨m, hm⟩ : ∃ m, at' + n = m := ⟨_, rfl⟩
  have hadd : IntKind.i64.wrap ((at' : Int) + (n : Int)) = (m : Int) := by rw [IntKind.wrap_i64]; omega
  have hslc := fun wx : World => run_slice_lh (P := Tryz.prog) 187 5 1 Tryz.underlying187 (by kernel_rfl) p s.size cap at' m (by omega) (by omega) wx (by omega)
  have hcv := fun n : Nat => OwnB.part (P := Tryz.prog) (ho.keep ((Keeps.refl NoB w).drewN n) (fun _ _ h => h)) 187 9 5 Tryz.underlying187 Tryz.underlying5 Tryz.underlying9 (by omega : at' ≤ m) (by omega) rfl (cap - at')
  rw [hn, hm]
  have hml := Lib.hid (show m ≤ s.size by omega)
  have HP := Lib.hid h
  clear h hn hnl hcp1 hcp2
  go_enter Tryz.func113, Tryz.ntmps113
  go_upto_region 1 with fail
  go_quiet (fail)
  go_upto_region 2 with fail
  have kd : Keeps NoB w (w.drewN nq) := (Keeps.refl _ _).drewN _
  replace HP := Lib.hid (HP.out.on kd)
  replace ho := ho.keep kd (fun _ _ h => h)
  replace c0 : (w.drewN nq).cell? ⟨q, 0, none⟩ = some (.slice p s.size cap) := c0
  replace c1 : (w.drewN nq).cell? ⟨q, 1, none⟩ = some (.int .i64 at') := c1
  clear hcv hfz hl
  generalize w.drewN nq = w1 at *
  have hcv := fun n : Nat => OwnB.part (P := Tryz.prog) (ho.keep ((Keeps.refl NoB w1).drewN n) (fun _ _ h => h)) 187 9 5 Tryz.underlying187 Tryz.underlying5 Tryz.underlying9 (by omega : at' ≤ m) (hml.out) rfl (cap - at')
  go_quiet (fail)
  go_upto_region 3 with fail
  have kd2 : Keeps NoB w1 (w1.drewN nq) := (Keeps.refl _ _).drewN _
  replace HP := Lib.hid (HP.out.on kd2)
  replace kd := kd.trans kd2
  clear hcv ho c0 c1 hslc kd2
  generalize w1.drewN nq = w2 at *
  have c1 := HP.out.c1
  have hfz := HP.out.fz
  have hl := HP.out.lt
  go_wp2_with fail
  go_ret
  exact ⟨rfl, HP.out.count hml.out, kd.of_none.trans (keeps_set w2 ⟨q, 1, none⟩ (.int .i64 (m : Int)))⟩

/-- What is written to a pipe. -/
def pwErr (s x : ByteArray) (at' : Nat) : Int := if 4194304 - ((s.size - at' : Nat) : Int) < x.size then 18 else 0
def pwTo (s x : ByteArray) (at' : Nat) : ByteArray := if pwErr s x at' = 0 then s ++ x else s

theorem pipeWrite_any (h : PipeAt S w q s at') (hS : ∀ g, w.heap.size ≤ g → S g) (x : ByteArray) (hx : s.size + x.size ≤ 2147483648) :
    Calls Tryz.prog 57 #[.pointer (some ⟨q, 0, none⟩), .string x] w fun e w' =>
      e = .returned (.int .i64 (pwErr s x at')) ∧ PipeAt S w' q (pwTo s x at') at' ∧ Keeps S w w' := by
  obtain ⟨v, c0, ho⟩ := h.ex
  have c1 := h.c1
  have hle := h.le
  have hsm := h.small
  obtain ⟨p, cap, rfl⟩ := ho.form
  have hwr : IntKind.i64.wrap ((s.size : Int) - (at' : Int)) = ((s.size - at' : Nat) : Int) := by rw [IntKind.wrap_i64]; omega
  obtain ⟨L, hL⟩ : ∃ L, s.size - at' = L := ⟨_, rfl⟩
  rw [hL] at hwr
  have hw2 : IntKind.i64.wrap (4194304 - (L : Int)) = 4194304 - (L : Int) := by rw [IntKind.wrap_i64]; omega
  have HP := Lib.hid h
  by_cases hz : 4194304 - (L : Int) < (x.size : Int)
  · have HE := Lib.hid (show pwErr s x at' = 18 by unfold pwErr; rw [hL, if_pos hz])
    clear h hL
    go_enter Tryz.func57, Tryz.ntmps57
    go_upto_region 1 with fail
    go_quiet (fail)
    go_wp2_with fail
    go_ret
    exact ⟨ret_i64 (by rw [HE.out]), (by unfold pwTo; rw [HE.out, if_neg (by decide)]; exact HP.out.on ((Keeps.refl _ _).drewN _)), (Keeps.refl _ _).drewN _⟩
  · have HE := Lib.hid (show pwErr s x at' = 0 by unfold pwErr; rw [hL, if_neg hz])
    clear h hL
    go_enter Tryz.func57, Tryz.ntmps57
    go_upto_region 1 with fail
    go_quiet (fail)
    go_upto_region 3 with fail
    have kd : Keeps NoB w (w.drewN nq) := (Keeps.refl _ _).drewN _
    replace HP := Lib.hid (HP.out.on kd)
    replace ho := ho.keep kd (fun _ _ h => h)
    replace c0 : (w.drewN nq).cell? ⟨q, 0, none⟩ = some (.slice p s.size cap) := c0
    have hS1 := Lib.hid (show S (w.drewN nq).heap.size ∧ (w.drewN nq).heap.size ≠ q from ⟨hS _ (Nat.le_refl _), fun e => by have := HP.out.lt; omega⟩)
    have HKS := Lib.hid (kd.of_none (F := S))
    clear c1
    generalize w.drewN nq = w1 at *
    obtain ⟨v', w2, hr, hv', hk, hf⟩ := OwnB.app (P := Tryz.prog) 187 ho Tryz.underlying187 Tryz.underlying9 (e := 5) (i := (Tryz.prog.info? 5).get!) (by kernel_rfl) (by kernel_rfl) (by kernel_rfl) (by kernel_rfl) x (by omega) hS1.out
    have hsz : (s ++ x).size = s.size + x.size := ByteArray.size_append
    obtain ⟨p2, cap2, hv2⟩ := hv'.form
    rw [hsz] at hv2
    subst hv2
    have hPS : S q := HP.out.inS
    have hkS := Lib.hid (hk.mono (G := fun g => S g ∧ g ≠ q) (fun g _ hg => ho.inS g hg))
    have c1 := (hkS.out.cell (p := ⟨q, 1, none⟩) HP.out.lt (fun hn => hn.2 rfl)).trans HP.out.c1
    have c0' := (hkS.out.cell (p := ⟨q, 0, none⟩) HP.out.lt (fun hn => hn.2 rfl)).trans c0
    have cz := fun j => (hkS.out.frozen (p := ⟨q, j, none⟩) HP.out.lt (fun hn => hn.2 rfl)).trans (HP.out.fz j)
    have cl := Nat.lt_of_lt_of_le HP.out.lt hk.size
    have HV := Lib.hid hv'
    clear hv' hk hf ho hwr hw2 hz hS1
    go_wp2_with (at_builtin; refine Lib.wpList_append_run _ rfl (.tmp 23) (.tmp 24) _ _ rfl _ _ rfl rfl _ w2 hr ?_; (try clear c0))
    go_ret
    have ks := keeps_set w2 ⟨q, 0, none⟩ (.slice p2 (s.size + x.size) cap2)
    have a0 := cell_set (g := q) (k := 0) (u := .slice p2 (s.size + x.size) cap2) (j := 0) c0'
    have a1 := cell_set (g := q) (k := 0) (u := .slice p2 (s.size + x.size) cap2) (j := 1) c1
    rw [if_pos rfl] at a0
    rw [if_neg (by decide)] at a1
    refine ⟨ret_i64 (by rw [HE.out]), ?_, (HKS.out.trans (hkS.out.mono (fun g _ hg => hg.1))).trans (ks.mono (F := fun g => g = q) (G := S) (fun g _ hg => hg ▸ hPS))⟩
    unfold pwTo
    rw [HE.out, if_pos rfl]
    exact ⟨⟨_, a0, HV.out.keep ks (fun g hg hx => (HV.out.inS g hg).2 hx)⟩, a1, fun j => (frozen_set _ _ _ _).trans (cz j), by simpa using cl, hPS, by omega, by omega⟩
end
end Go.Proofs.YtbmalnllppamdaaGreatDoor
