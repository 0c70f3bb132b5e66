/-
  Contracts of the string functions of the library that the program calls, and of names.
-/
import Derived.Test.YtfomkkoecelakaaDoorProg
import Derived.Test.YtfomkkoecelakaaDoorB01
import Derived.Test.YtfomkkoecelakaaDoorB03
import Derived.Lib.Slices

set_option linter.unusedSimpArgs false
set_option linter.unusedVariables false

set_option maxRecDepth 100000
namespace Go.Proofs.YtfomkkoecelakaaDoor
open Go.RowKit

set_option maxHeartbeats 400000 in
theorem cmpstr_any (a b : ByteArray) (w : World) :
    Calls Tryd.prog 92 #[.string a, .string b] w fun e w' => e = .returned (.int .i64 (bCmp a b)) ∧ w = w' := by
  go_enter Tryd.func92, Tryd.ntmps92
  go_wp2
  rw [run_callFunc_extern Tryd.func98 (by kernel_rfl) (by kernel_rfl) (by kernel_rfl) (e := Extern.BytealgCompare.compare) (by kernel_rfl), Lib.run_compareString]
  simp only [Result.andThen]
  rw [Oper.upon_value]
  go_wp2
  go_ret
  exact ⟨rfl, rfl⟩

set_option maxHeartbeats 400000 in
theorem cmp_any (a b : ByteArray) (w : World) :
    Calls Tryd.prog 83 #[.string a, .string b] w fun e w' => e = .returned (.int .i64 (bCmp a b)) ∧ w = w' := by
  go_enter Tryd.func83, Tryd.ntmps83
  go_wp2_with (go_at_call 92; refine (cmpstr_any _ _ _).mono ?_; rintro e w' ⟨rfl, rfl⟩)
  go_ret
  exact ⟨rfl, rfl⟩

set_option maxHeartbeats 400000 in
theorem ib_any (s : ByteArray) (c : Int) (w : World) :
    Calls Tryd.prog 40 #[.string s, .int .u8 c] w fun e w' => e = .returned (.int .i64 (bIdx s c.toNat.toUInt8)) ∧ w = w' := by
  go_enter Tryd.func40, Tryd.ntmps40
  go_wp2
  rw [run_callFunc_extern Tryd.func78 (by kernel_rfl) (by kernel_rfl) (by kernel_rfl) (e := Extern.BytealgIndexByte.indexByte) (by kernel_rfl), run_indexByte_string]
  simp only [Result.andThen, Lib.firstIdx_eq]
  rw [Oper.upon_value]
  go_wp2
  go_ret
  exact ⟨rfl, rfl⟩

theorem ret_bool {a b : Bool} (h : a = b) : Ending.returned (.bool a) = Ending.returned (.bool b) := by rw [h]
theorem ret_i64 {a b : Int} (h : a = b) : Ending.returned (.int .i64 a) = Ending.returned (.int .i64 b) := by rw [h]

set_option maxHeartbeats 400000 in
theorem name_any (s : ByteArray) (w : World) :
    Calls Tryd.prog 67 #[.string s] w fun e w' => e = .returned (.bool (okName s)) ∧ w = w' := by
  have H := Lib.hid (okName_eq s)
  go_enter Tryd.func67, Tryd.ntmps67
  go_wp2_with (go_at_call 40; refine (ib_any _ _ _).mono ?_; rintro e w' ⟨rfl, rfl⟩)
  all_goals
    go_ret
    refine ⟨ret_bool ?_, rfl⟩
    rw [H.out]
    first | (simp [*]; done) | (simp [*]; omega) | (simp [*]; intros; omega)

end Go.Proofs.YtfomkkoecelakaaDoor

/-
  Contracts of package dir: what each function does with a directory in memory.
-/
set_option maxRecDepth 100000
namespace Go.Proofs.YtfomkkoecelakaaDoor
open Go.RowKit

/-- An entry in cells: its name, its node. -/
def encEnt : Enc Ent where
  enc := fun e => [.string e.1, .int .i64 e.2]
  k := 2
  pos := by decide
  len := fun _ => rfl
  one := fun x v hv => by simp at hv; rcases hv with rfl | rfl <;> rfl

theorem ElemT.of {α : Type} {P : Program} {E : Enc α} {t e : TypeId} {z : α} {bytes : Nat} (zv : Value) (hu : P.underlying t = some (.slice e))
    (h : (P.info? e).map (fun i => (i.zero, i.size, i.bytes)) = some (some zv, E.k, bytes)) (hz : zv.cells.toList = E.enc z) : ElemT P E t e z bytes := by
  refine ⟨hu, ?_⟩
  cases hi : P.info? e with
  | none => rw [hi] at h; cases h
  | some i => rw [hi] at h; simp at h; exact ⟨i, rfl, h.2.1, h.2.2, zv, h.1, hz⟩

theorem tEnt : ElemT Tryd.prog encEnt 32 41 (ByteArray.empty, 0) 24 :=
  .of (.agg #[.string ByteArray.empty, .int .i64 0]) Tryd.underlying32 (by kernel_rfl) rfl

set_option maxHeartbeats 400000 in
theorem find1_any (nm name : ByteArray) (n : Int) (w : World) :
    Calls Tryd.prog 82 #[.agg #[.string nm, .int .i64 n], .string name] w fun e w' => e = .returned (.int .i64 (bCmp nm name)) ∧ Keeps NoB w w' := by
  go_enter Tryd.func82, Tryd.ntmps82
  go_wp2_with (go_at_call 83; refine (cmp_any _ _ _).mono ?_; rintro e w' ⟨rfl, rfl⟩)
  go_ret
  exact ⟨rfl, (Keeps.refl _ _).alloc _⟩

theorem SlAt.ent {S : Nat → Prop} {w : World} {p : Option Addr} {c : Nat} {l : List Ent} (h : SlAt encEnt S w p c l) {i : Nat} {x : Ent} (hi : l[i]? = some x) :
    ∃ g off, p = some ⟨g, off, none⟩ ∧ S g ∧ g < w.heap.size ∧ w.cell? ⟨g, off + i * 2, none⟩ = some (.string x.1) ∧ w.cell? ⟨g, off + i * 2 + 1, none⟩ = some (.int .i64 x.2) := by
  obtain ⟨g, off, hp, hS, hg, hc⟩ := h.at hi
  exact ⟨g, off, hp, hS, hg, hc 0 _ rfl, by have := hc 1 _ rfl; rwa [← Nat.add_assoc] at this⟩

set_option maxHeartbeats 1000000 in
theorem bs_any (S : Nat → Prop) (w : World) (p : Option Addr) (c : Nat) (es : List Ent) (name : ByteArray) (h : SlAt encEnt S w p c es) (hr : Rising es) (hn : es.length < 4294967296) :
    Calls Tryd.prog 81 #[.slice p es.length c, .string name, .func (.func 82) #[] #[]] w fun e w' =>
      e = .returned (.tuple #[.int .i64 (lb es name), .bool (entHas es name)]) ∧ Keeps NoB w w' := by
  have hcap := h.cap
  have hmax := h.max
  unfold maxLen at hmax
  go_enter Tryd.func81, Tryd.ntmps81
  go_wp2
  go_loopw [9, 10] (fun i j wr => ∃ a b : Nat, a ≤ b ∧ b ≤ es.length ∧ i = .int .i64 a ∧ j = .int .i64 b ∧ (∀ k x, k < a → es[k]? = some x → bLt x.1 name = true) ∧ (∀ k x, b ≤ k → es[k]? = some x → bLt x.1 name = false) ∧ Keeps NoB w wr) (fun i j _ => (intOf j).toNat - (intOf i).toNat)
  case atStart => exact ⟨0, es.length, Nat.zero_le _, Nat.le_refl _, rfl, rfl, fun k x hk => by omega, fun k x hk hx => by have := (List.getElem?_eq_some_iff.1 hx).1; omega, Keeps.refl _ _⟩
  case round =>
    obtain ⟨a, b, hab, hb, rfl, rfl, hlo, hhi, hkp⟩ := hrel
    have Hlo := Lib.hid hlo
    have Hhi := Lib.hid hhi
    have Hkp := Lib.hid hkp
    clear hlo hhi hkp
    by_cases hlt : a < b
    · obtain ⟨x, hx⟩ : ∃ x, es[(a + b) / 2]? = some x := ⟨_, List.getElem?_eq_getElem (by omega)⟩
      obtain ⟨g, off, rfl, hS, hg, c0, c1⟩ := (h.keepN Hkp.out).ent hx
      have Hx := Lib.hid hx
      clear hx
      by_cases hb : bLt x.1 name = true
      · have hneg := (bCmp_neg _ _).2 hb
        go_wp2_with (go_at_call 82; refine (find1_any _ _ _ _).mono ?_; rintro e w' ⟨rfl, hk1⟩)
        go_roundw
        case rel =>
          refine ⟨(a + b) / 2 + 1, b, by omega, by omega, by go_num, rfl, fun k y hk hy => ?_, Hhi.out, Hkp.out.trans hk1⟩
          by_cases e : k = (a + b) / 2
          · subst e; rw [Hx.out] at hy; cases hy; exact hb
          · exact bLt_trans (hr.get hy Hx.out (by omega)) hb
        case measure => simp [intOf]; omega
      · have hneg : 0 ≤ bCmp x.1 name := by
          have := mt (bCmp_neg x.1 name).1 hb; omega
        have hb' : bLt x.1 name = false := by simpa using hb
        go_wp2_with (go_at_call 82; refine (find1_any _ _ _ _).mono ?_; rintro e w' ⟨rfl, hk1⟩)
        go_roundw
        case rel =>
          refine ⟨a, (a + b) / 2, by omega, by omega, rfl, by go_num, Hlo.out, fun k y hk hy => ?_, Hkp.out.trans hk1⟩
          by_cases e : k = (a + b) / 2
          · subst e; rw [Hx.out] at hy; cases hy; exact hb'
          · have := hr.get Hx.out hy (by omega)
            cases hc : bLt y.1 name with
            | false => rfl
            | true => rw [bLt_trans this hc] at hb'; cases hb'
        case measure => simp [intOf]; omega
    · obtain rfl : b = a := by omega
      have hlb : lb es name = b := lb_unique b hb (fun j x hj hx => Hlo.out j x hj hx) (fun x hx => Hhi.out b x (Nat.le_refl _) hx)
      have Hlb := Lib.hid hlb
      have hhas := lb_has hr name
      rw [hlb] at hhas
      clear hlb
      by_cases hlt2 : b < es.length
      · obtain ⟨x, hx⟩ : ∃ x, es[b]? = some x := ⟨_, List.getElem?_eq_getElem (by omega)⟩
        obtain ⟨g, off, rfl, hS, hg, c0, c1⟩ := (h.keepN Hkp.out).ent hx
        rw [hx] at hhas
        have Hhas := Lib.hid hhas
        have Hx := Lib.hid hx
        clear hx hhas
        go_wp2_with (go_at_call 82; refine (find1_any _ _ _ _).mono ?_; rintro e w' ⟨rfl, hk1⟩)
        go_ret2
        refine ⟨?_, Hkp.out.trans hk1⟩
        rw [Hlb.out, Hhas.out]
        have hz : (bCmp x.1 name == 0) = decide (x.1 = name) := by rw [Bool.eq_iff_iff]; simpa using bCmp_zero x.1 name
        simp [hz]
      · rw [List.getElem?_eq_none (by omega)] at hhas
        have Hhas := Lib.hid hhas
        clear hhas
        go_wp2_with fail
        go_ret2
        refine ⟨?_, Hkp.out⟩
        rw [Hlb.out, Hhas.out]
        rfl
end Go.Proofs.YtfomkkoecelakaaDoor

/-
  Contracts of package dir, the second part: reading a directory.
-/
set_option maxRecDepth 100000
namespace Go.Proofs.YtfomkkoecelakaaDoor
open Go.RowKit

/-- The directory at address a holds the entries es; its row lies in a block of G. -/
structure IsDir (G : Nat → Prop) (w : World) (a : Addr) (v : Value) (es : List Ent) : Prop where
  cell : w.cell? a = some v
  free : w.frozen? a = false
  spot : a.spot = none
  own : Own encEnt 41 G w v es
  rising : Rising es
  names : ∀ e ∈ es, okName e.1 = true
  apart : ¬ v.ownBlock = some a.block

set_option maxHeartbeats 400000 in
theorem find_any (G : Nat → Prop) (w : World) (a : Addr) (v : Value) (es : List Ent) (name : ByteArray) (h : IsDir G w a v es) (hn : es.length < 4294967296) :
    Calls Tryd.prog 66 #[.pointer (some a), .string name] w fun e w' =>
      e = .returned (.tuple #[.int .i64 (lb es name), .bool (entHas es name)]) ∧ Keeps NoB w w' := by
  obtain ⟨p, c, rfl, hs⟩ := h.own.sl
  have hc := h.cell
  have hr := h.rising
  go_enter Tryd.func66, Tryd.ntmps66
  go_wp2_with (go_at_call 81; refine (bs_any _ _ _ _ _ _ hs hr hn).mono ?_; rintro e w' ⟨rfl, hk1⟩)
  go_ret2
  exact ⟨rfl, hk1⟩

set_option maxHeartbeats 400000 in
theorem len_any (G : Nat → Prop) (w : World) (a : Addr) (v : Value) (es : List Ent) (h : IsDir G w a v es) :
    Calls Tryd.prog 39 #[.pointer (some a)] w fun e w' => e = .returned (.int .i64 es.length) ∧ w = w' := by
  obtain ⟨p, c, rfl, hs⟩ := h.own.sl
  have hc := h.cell
  go_enter Tryd.func39, Tryd.ntmps39
  go_wp2
  go_ret
  exact ⟨rfl, rfl⟩

set_option maxHeartbeats 400000 in
theorem get_any (G : Nat → Prop) (w : World) (a : Addr) (v : Value) (es : List Ent) (name : ByteArray) (h : IsDir G w a v es) (hn : es.length < 4294967296) :
    Calls Tryd.prog 80 #[.pointer (some a), .string name] w fun e w' =>
      e = .returned (.tuple #[.int .i64 ((entGet es name).getD 0), .bool (entGet es name).isSome]) ∧ Keeps NoB w w' := by
  have hfind := find_any G w a v es name h hn
  obtain ⟨p, c, rfl, hs⟩ := h.own.sl
  have hlt := lt_of_cell h.cell
  have hhas := lb_has h.rising name
  have hget := get_at h.rising name
  by_cases hh : entHas es name = true
  · rw [hh] at hhas
    cases hl : es[lb es name]? with
    | none => rw [hl] at hhas; cases hhas
    | some x =>
      rw [hl] at hhas hget
      have hx : x.1 = name := by simpa using hhas.symm
      simp only [hx, if_true] at hget
      have Hget := Lib.hid hget
      have Hl := Lib.hid hl
      have hll := (List.getElem?_eq_some_iff.1 hl).1
      rw [hh] at hfind
      have Hfind := Lib.hid hfind
      clear hhas hget hl hh hfind
      go_enter Tryd.func80, Tryd.ntmps80
      go_wp2_with (fail)
      refine Hfind.out.mono ?_
      rintro e w' ⟨rfl, hk1⟩
      obtain ⟨g, off, rfl, hS, hg, c0, c1⟩ := (hs.keepN hk1).ent Hl.out
      have hc := (hk1.cell hlt (fun h => h)).trans h.cell
      go_wp2_with fail
      go_ret2
      refine ⟨?_, hk1⟩
      rw [Hget.out]; rfl
  · have hh' : entHas es name = false := by simpa using hh
    have hget0 : entGet es name = none := by
      rw [hh'] at hhas
      cases hl : es[lb es name]? with
      | none => rw [hl] at hget; exact hget
      | some x =>
        rw [hl] at hget hhas
        have : ¬ x.1 = name := by simpa using hhas.symm
        simpa [this] using hget
    have Hget := Lib.hid hget0
    rw [hh'] at hfind
    have Hfind := Lib.hid hfind
    clear hhas hget hget0 hh hh' hfind
    go_enter Tryd.func80, Tryd.ntmps80
    go_wp2_with (fail)
    refine Hfind.out.mono ?_
    rintro e w' ⟨rfl, hk1⟩
    go_wp2_with fail
    go_ret2
    refine ⟨?_, hk1⟩
    rw [Hget.out]; rfl

theorem entSize_take (es : List Ent) (k : Nat) (x : Ent) (h : es[k]? = some x) : entSize (es.take (k + 1)) = entSize (es.take k) + x.1.size := by
  unfold entSize
  rw [List.take_add_one, h]
  simp

theorem entSize_le (es : List Ent) (h : ∀ e ∈ es, okName e.1 = true) : entSize es ≤ 255 * es.length := by
  induction es with
  | nil => simp [entSize]
  | cons a l ih =>
    have ha : a.1.size ≤ 255 := by have := h a (by simp); simp [okName] at this; omega
    have := ih (fun e he => h e (by simp [he]))
    simp only [entSize, List.map_cons, List.sum_cons, List.length_cons] at *
    omega

set_option maxHeartbeats 400000 in
theorem size_any (G : Nat → Prop) (w : World) (a : Addr) (v : Value) (es : List Ent) (h : IsDir G w a v es) (hn : es.length < 4294967296) :
    Calls Tryd.prog 70 #[.pointer (some a)] w fun e w' => e = .returned (.int .i64 (entSize es)) ∧ Keeps NoB w w' := by
  have hnm := h.names
  obtain ⟨p, c, rfl, hs⟩ := h.own.sl
  have hc := h.cell
  have Hnm := Lib.hid hnm
  clear hnm
  go_enter Tryd.func70, Tryd.ntmps70
  go_wp2
  go_loopw [3, 5, 11] (fun s u i wr => ∃ k : Nat, k ≤ es.length ∧ i = .int .i64 k ∧ s = .int .i64 (entSize (es.take k)) ∧ Keeps NoB w wr) (fun _ _ i _ => es.length - (intOf i).toNat)
  case atStart => exact ⟨0, Nat.zero_le _, rfl, by simp [entSize], Keeps.refl _ _⟩
  case round =>
    obtain ⟨k, hk, rfl, rfl, hkp⟩ := hrel
    have Hkp := Lib.hid hkp
    clear hkp
    by_cases hlt : k < es.length
    · obtain ⟨x, hx⟩ : ∃ x, es[k]? = some x := ⟨_, List.getElem?_eq_getElem hlt⟩
      obtain ⟨g, off, rfl, hS, hg, c0, c1⟩ := (hs.keepN Hkp.out).ent hx
      have hx1 : x.1.size ≤ 255 := by have := Hnm.out x (List.mem_of_getElem? hx); simp [okName] at this; omega
      have hle := entSize_le (es.take k) (fun e he => Hnm.out e (List.mem_of_mem_take he))
      rw [List.length_take] at hle
      have HS := Lib.hid (entSize_take es k x hx)
      clear hx
      go_wp2
      go_roundw
      case rel => exact ⟨k + 1, by omega, by go_num, by rw [HS.out]; go_num, (Hkp.out.alloc _)⟩
      case measure => simp [intOf]; omega
    · go_wp2
      go_ret
      exact ⟨ret_i64 (by rw [List.take_of_length_le (by omega)]), Hkp.out⟩

set_option maxHeartbeats 400000 in
theorem clone_any (S : Nat → Prop) (w : World) (p : Option Addr) (c : Nat) (es : List Ent) (h : SlAt encEnt S w p c es) (hn : es.length < 4294967296) :
    Calls Tryd.prog 51 #[.slice p es.length c] w fun e w' =>
      ∃ v', e = .returned v' ∧ Own encEnt 41 (fun g => w.heap.size ≤ g) w' v' es ∧ Keeps NoB w w' := by
  cases p with
  | none =>
    have hc0 := h.nilc rfl
    have hcap := h.cap
    have h0 : es.length = 0 := by omega
    subst hc0
    obtain rfl : es = [] := List.eq_nil_of_length_eq_zero h0
    have heq : ∀ (w : World), (binOp .eql 32 (.slice none 0 0) (.slice none 0 0)).run Tryd.prog w = .ok (.bool true) w := fun w => Lib.run_eql_slice_nil w _ _ none 0 0 0 0 Tryd.underlying32
    go_enter Tryd.func51, Tryd.ntmps51
    go_wp2
    go_ret
    exact ⟨_, rfl, Own.nil _ _ _ _, Keeps.refl _ _⟩
  | some ad =>
    have heq : ∀ (w : World), (binOp .eql 32 (.slice (some ad) es.length c) (.slice none 0 0)).run Tryd.prog w = .ok (.bool false) w := fun w => Lib.run_eql_slice_nil w _ _ (some ad) es.length c 0 0 Tryd.underlying32
    have hmx : es.length ≤ maxLen := by have := h.cap; have := h.max; omega
    go_enter Tryd.func51, Tryd.ntmps51
    go_wp2_with (at_builtin; refine wpl_append rfl _ _ rfl tEnt (own_lit (S := fun g => w.heap.size ≤ g) [] #[] rfl 0 rfl (Nat.le_refl _) (Nat.zero_le _)) ⟨_, _, rfl, h.keepN ((Keeps.refl _ _).alloc _)⟩ rfl rfl (by simp) (by simpa using hmx) (by simp; omega) ?_; intro v' w' ho hk hf)
    go_ret
    exact ⟨v', rfl, ho.mono (fun g _ h => h), ((Keeps.refl _ _).alloc _).step hk (fun g hg => by simp [Value.ownBlock] at hg; omega)⟩

set_option maxHeartbeats 400000 in
theorem list_any (G : Nat → Prop) (w : World) (a : Addr) (v : Value) (es : List Ent) (h : IsDir G w a v es) (hn : es.length < 4294967296) :
    Calls Tryd.prog 31 #[.pointer (some a)] w fun e w' =>
      ∃ v', e = .returned v' ∧ Own encEnt 41 (fun g => w.heap.size ≤ g) w' v' es ∧ Keeps NoB w w' := by
  obtain ⟨p, c, rfl, hs⟩ := h.own.sl
  have hc := h.cell
  go_enter Tryd.func31, Tryd.ntmps31
  go_wp2_with (go_at_call 51; refine (clone_any _ _ _ _ _ hs hn).mono ?_; rintro e w' ⟨v', rfl, ho, hk⟩)
  go_ret
  exact ⟨v', rfl, ho, hk⟩

theorem bPre_lt {s p : ByteArray} (h : bPre s p = true) : bLt s p = false := by
  simp only [bPre, bLt] at *
  rw [List.isPrefixOf_iff_prefix] at h
  obtain ⟨t, ht⟩ := h
  rw [← ht]
  simp only [decide_eq_false_iff_not]
  rw [List.not_lt]
  exact List.le_append_left

/-- Between a text and one that begins with it stand only such as begin with it. -/
theorem bPre_between {s p x : ByteArray} (hx : bPre x p = true) (h1 : bLt s p = false) (h2 : bLt s x = true) : bPre s p = true := by
  simp only [bPre, bLt, decide_eq_false_iff_not, List.not_lt, decide_eq_true_eq, List.isPrefixOf_iff_prefix] at *
  generalize s.data.toList = a at *
  generalize p.data.toList = b at *
  generalize x.data.toList = c at *
  clear s p x
  obtain ⟨t, rfl⟩ := hx
  induction b generalizing a with
  | nil => exact List.nil_prefix
  | cons b bs ih =>
    cases a with
    | nil => simp at h1
    | cons a la =>
      rw [List.cons_append, List.cons_lt_cons_iff] at h2
      rw [← List.not_lt, List.cons_lt_cons_iff] at h1
      have hab : a = b := by
        rcases h2 with h2 | ⟨h2, _⟩
        · exact absurd (Or.inl h2) h1
        · exact h2
      subst hab
      have h1' : bs ≤ la := by rw [← List.not_lt]; exact fun h => h1 (Or.inr ⟨rfl, h⟩)
      have h2' : la < bs ++ t := by
        rcases h2 with h2 | ⟨_, h2⟩
        · exact absurd h2 (UInt8.lt_irrefl _)
        · exact h2
      exact List.cons_prefix_cons.2 ⟨rfl, ih la h1' h2'⟩

theorem from_split {l : List Ent} (h : Rising l) (head : ByteArray) (k : Nat) (hk : lb l head ≤ k) (hkl : k ≤ l.length) (hyes : ∀ j x, lb l head ≤ j → j < k → l[j]? = some x → bPre x.1 head = true)
    (hno : ∀ x, l[k]? = some x → bPre x.1 head = false) : (l.take k).drop (lb l head) = entFrom l head := by
  have h1 : (l.take (lb l head)).filter (fun e => bPre e.1 head) = [] := List.filter_eq_nil_iff.2 fun x hx hc => by
    obtain ⟨j, hj⟩ := List.mem_iff_getElem?.1 hx
    rw [List.getElem?_take] at hj
    split at hj
    · next hlt => have := bPre_lt hc; rw [lb_before hlt hj] at this; cases this
    · cases hj
  have h3 : (l.drop k).filter (fun e => bPre e.1 head) = [] := List.filter_eq_nil_iff.2 fun x hx hc => by
    obtain ⟨j, hj⟩ := List.mem_iff_getElem?.1 hx
    rw [List.getElem?_drop] at hj
    have hkl' := (List.getElem?_eq_some_iff.1 hj).1
    obtain ⟨y, hy⟩ : ∃ y, l[k]? = some y := ⟨_, List.getElem?_eq_getElem (by omega)⟩
    have hyn := hno y hy
    by_cases hj0 : j = 0
    · subst hj0; rw [Nat.add_zero, hy] at hj; cases hj; rw [hc] at hyn; cases hyn
    · have := bPre_between hc (lb_after h hk hy) (h.get hy hj (by omega))
      rw [this] at hyn; cases hyn
  have h2 : ((l.take k).drop (lb l head)).filter (fun e => bPre e.1 head) = (l.take k).drop (lb l head) := List.filter_eq_self.2 fun x hx => by
    obtain ⟨j, hj⟩ := List.mem_iff_getElem?.1 hx
    rw [List.getElem?_drop, List.getElem?_take] at hj
    split at hj
    · next hlt => exact hyes _ x (by omega) hlt hj
    · cases hj
  unfold entFrom
  have hsplit : l = l.take (lb l head) ++ ((l.take k).drop (lb l head) ++ l.drop k) := by
    have e1 : l.take (lb l head) = (l.take k).take (lb l head) := by rw [List.take_take, Nat.min_eq_left hk]
    rw [e1, ← List.append_assoc, List.take_append_drop, List.take_append_drop]
  conv => rhs; rw [hsplit]
  rw [List.filter_append, List.filter_append, h1, h2, h3]
  simp

end Go.Proofs.YtfomkkoecelakaaDoor
