/-
  Contracts of the string functions of the library that the program calls, and of names.
-/
import Derived.Test.YtbcejodnjeklpaaProg
import Derived.Test.YtbcejodnjeklpaaA01
import Derived.Test.YtbcejodnjeklpaaA03
import Derived.Lib.Slices

set_option linter.unusedSimpArgs false
set_option linter.unusedVariables false

namespace Go.Proofs.Ytbcejodnjeklpaa
open Go.RowKit

set_option maxHeartbeats 400000 in
theorem cmpstr_any (a b : ByteArray) (w : World) :
    Calls Try.prog 90 #[.string a, .string b] w fun e w' => e = .returned (.int .i64 (bCmp a b)) ∧ w = w' := by
  go_enter Try.func90, Try.ntmps90
  go_wp2
  rw [run_callFunc_extern Try.func93 (by kernel_rfl) (by kernel_rfl) (by kernel_rfl) (e := Extern.BytealgCompare.compare) (by kernel_rfl), Lib.run_compareString]
  simp only [Result.andThen]
  rw [Oper.upon_value]
  go_wp2
  go_ret
  exact ⟨rfl, rfl⟩

set_option maxHeartbeats 400000 in
theorem cmp_any (a b : ByteArray) (w : World) :
    Calls Try.prog 85 #[.string a, .string b] w fun e w' => e = .returned (.int .i64 (bCmp a b)) ∧ w = w' := by
  go_enter Try.func85, Try.ntmps85
  go_wp2_with (go_at_call 90; refine (cmpstr_any _ _ _).mono ?_; rintro e w' ⟨rfl, rfl⟩)
  go_ret
  exact ⟨rfl, rfl⟩

set_option maxHeartbeats 400000 in
theorem ib_any (s : ByteArray) (c : Int) (w : World) :
    Calls Try.prog 87 #[.string s, .int .u8 c] w fun e w' => e = .returned (.int .i64 (bIdx s c.toNat.toUInt8)) ∧ w = w' := by
  go_enter Try.func87, Try.ntmps87
  go_wp2
  rw [run_callFunc_extern Try.func94 (by kernel_rfl) (by kernel_rfl) (by kernel_rfl) (e := Extern.BytealgIndexByte.indexByte) (by kernel_rfl), run_indexByte_string]
  simp only [Result.andThen, Lib.firstIdx_eq]
  rw [Oper.upon_value]
  go_wp2
  go_ret
  exact ⟨rfl, rfl⟩

theorem ret_bool {a b : Bool} (h : a = b) : Ending.returned (.bool a) = Ending.returned (.bool b) := by rw [h]
theorem ret_i64 {a b : Int} (h : a = b) : Ending.returned (.int .i64 a) = Ending.returned (.int .i64 b) := by rw [h]

set_option maxHeartbeats 400000 in
theorem name_any (s : ByteArray) (w : World) :
    Calls Try.prog 80 #[.string s] w fun e w' => e = .returned (.bool (okName s)) ∧ w = w' := by
  have H := Lib.hid (okName_eq s)
  go_enter Try.func80, Try.ntmps80
  go_wp2_with (go_at_call 87; refine (ib_any _ _ _).mono ?_; rintro e w' ⟨rfl, rfl⟩)
  all_goals
    go_ret
    refine ⟨ret_bool ?_, rfl⟩
    rw [H.out]
    first | (simp [*]; done) | (simp [*]; omega) | (simp [*]; intros; omega)

set_option maxHeartbeats 400000 in
theorem r2has_any (s : ByteArray) (c : Int) (w : World) (hs : s.size ≤ maxLen) (hc : 0 ≤ c) (hc2 : c < 256) :
    Calls Try.prog 86 #[.string s, .int .u8 c] w fun e w' => e = .returned (.bool (hasB s c.toNat.toUInt8)) ∧ w = w' := by
  unfold maxLen at hs
  go_enter Try.func86, Try.ntmps86
  go_wp2
  go_loop [5] (fun i => ∃ k : Nat, k ≤ s.size ∧ i = .int .i64 k ∧ ∀ (j : Nat) (h : j < s.size), j < k → ¬ s[j] = c.toNat.toUInt8) (fun i => s.size - (intOf i).toNat)
  case atStart => exact ⟨0, Nat.zero_le _, rfl, fun j _ hj => by omega⟩
  case round =>
    obtain ⟨k, hk, rfl, hno⟩ := hrel
    have Hno := Lib.hid hno
    clear hno
    by_cases hlt : k < s.size
    · have Hb := Lib.hid (byte_eq s[k] c hc hc2)
      go_wp2
      · go_ret
        refine ⟨ret_bool ?_, rfl⟩
        have h : ((s[k].toNat : Int) == c) = true := by assumption
        rw [Hb.out, decide_eq_true_eq] at h
        exact ((hasB_iff s _).2 ⟨k, hlt, h⟩).symm
      · have h : ((s[k].toNat : Int) == c) = false := by assumption
        rw [Hb.out, decide_eq_false_iff_not] at h
        go_round
        case rel =>
          refine ⟨k + 1, by omega, by go_num, fun j hj hjk => ?_⟩
          by_cases e : j = k
          · subst e; exact h
          · exact Hno.out j hj (by omega)
        case measure => simp [intOf]; omega
    · go_wp2
      go_ret
      refine ⟨ret_bool ?_, rfl⟩
      symm
      rw [← Bool.not_eq_true, hasB_iff]
      rintro ⟨j, hj, e⟩
      exact Hno.out j hj (by omega) e

set_option maxHeartbeats 400000 in
theorem r2name_any (s : ByteArray) (w : World) (hs : s.size ≤ maxLen) :
    Calls Try.prog 78 #[.string s] w fun e w' => e = .returned (.bool (okName s)) ∧ w = w' := by
  have hs' := hs
  unfold maxLen at hs
  have H := Lib.hid (okName_eq2 s)
  go_enter Try.func78, Try.ntmps78
  go_wp2_with (go_at_call 86; refine (r2has_any _ _ _ hs' (by decide) (by decide)).mono ?_; rintro e w' ⟨rfl, rfl⟩)
  all_goals
    go_ret
    refine ⟨ret_bool ?_, rfl⟩
    rw [H.out]
    first | (simp [*]; done) | (simp [*]; omega) | (simp [*]; intros; omega)
end Go.Proofs.Ytbcejodnjeklpaa

/-
  Contracts of package dir: what each function does with a directory in memory.
-/
namespace Go.Proofs.Ytbcejodnjeklpaa
open Go.RowKit

/-- An entry in cells: its name, its node. -/
def encEnt : Enc Ent where
  enc := fun e => [.string e.1, .int .i64 e.2]
  k := 2
  pos := by decide
  len := fun _ => rfl
  one := fun x v hv => by simp at hv; rcases hv with rfl | rfl <;> rfl

theorem ElemT.of {α : Type} {P : Program} {E : Enc α} {t e : TypeId} {z : α} {bytes : Nat} (zv : Value) (hu : P.underlying t = some (.slice e))
    (h : (P.info? e).map (fun i => (i.zero, i.size, i.bytes)) = some (some zv, E.k, bytes)) (hz : zv.cells.toList = E.enc z) : ElemT P E t e z bytes := by
  refine ⟨hu, ?_⟩
  cases hi : P.info? e with
  | none => rw [hi] at h; cases h
  | some i => rw [hi] at h; simp at h; exact ⟨i, rfl, h.2.1, h.2.2, zv, h.1, hz⟩

theorem tEnt : ElemT Try.prog encEnt 73 107 (ByteArray.empty, 0) 24 :=
  .of (.agg #[.string ByteArray.empty, .int .i64 0]) Try.underlying73 (by kernel_rfl) rfl

set_option maxHeartbeats 400000 in
theorem find1_any (nm name : ByteArray) (n : Int) (w : World) :
    Calls Try.prog 84 #[.agg #[.string nm, .int .i64 n], .string name] w fun e w' => e = .returned (.int .i64 (bCmp nm name)) ∧ Keeps NoB w w' := by
  go_enter Try.func84, Try.ntmps84
  go_wp2_with (go_at_call 85; refine (cmp_any _ _ _).mono ?_; rintro e w' ⟨rfl, rfl⟩)
  go_ret
  exact ⟨rfl, (Keeps.refl _ _).alloc _⟩

theorem SlAt.ent {S : Nat → Prop} {w : World} {p : Option Addr} {c : Nat} {l : List Ent} (h : SlAt encEnt S w p c l) {i : Nat} {x : Ent} (hi : l[i]? = some x) :
    ∃ g off, p = some ⟨g, off, none⟩ ∧ S g ∧ g < w.heap.size ∧ w.cell? ⟨g, off + i * 2, none⟩ = some (.string x.1) ∧ w.cell? ⟨g, off + i * 2 + 1, none⟩ = some (.int .i64 x.2) := by
  obtain ⟨g, off, hp, hS, hg, hc⟩ := h.at hi
  exact ⟨g, off, hp, hS, hg, hc 0 _ rfl, by have := hc 1 _ rfl; rwa [← Nat.add_assoc] at this⟩

set_option maxHeartbeats 1000000 in
theorem bs_any (S : Nat → Prop) (w : World) (p : Option Addr) (c : Nat) (es : List Ent) (name : ByteArray) (h : SlAt encEnt S w p c es) (hr : Rising es) (hn : es.length < 4294967296) :
    Calls Try.prog 83 #[.slice p es.length c, .string name, .func (.func 84) #[] #[]] w fun e w' =>
      e = .returned (.tuple #[.int .i64 (lb es name), .bool (entHas es name)]) ∧ Keeps NoB w w' := by
  have hcap := h.cap
  have hmax := h.max
  unfold maxLen at hmax
  go_enter Try.func83, Try.ntmps83
  go_wp2
  go_loopw [9, 10] (fun i j wr => ∃ a b : Nat, a ≤ b ∧ b ≤ es.length ∧ i = .int .i64 a ∧ j = .int .i64 b ∧ (∀ k x, k < a → es[k]? = some x → bLt x.1 name = true) ∧ (∀ k x, b ≤ k → es[k]? = some x → bLt x.1 name = false) ∧ Keeps NoB w wr) (fun i j _ => (intOf j).toNat - (intOf i).toNat)
  case atStart => exact ⟨0, es.length, Nat.zero_le _, Nat.le_refl _, rfl, rfl, fun k x hk => by omega, fun k x hk hx => by have := (List.getElem?_eq_some_iff.1 hx).1; omega, Keeps.refl _ _⟩
  case round =>
    obtain ⟨a, b, hab, hb, rfl, rfl, hlo, hhi, hkp⟩ := hrel
    have Hlo := Lib.hid hlo
    have Hhi := Lib.hid hhi
    have Hkp := Lib.hid hkp
    clear hlo hhi hkp
    by_cases hlt : a < b
    · obtain ⟨x, hx⟩ : ∃ x, es[(a + b) / 2]? = some x := ⟨_, List.getElem?_eq_getElem (by omega)⟩
      obtain ⟨g, off, rfl, hS, hg, c0, c1⟩ := (h.keepN Hkp.out).ent hx
      have Hx := Lib.hid hx
      clear hx
      by_cases hb : bLt x.1 name = true
      · have hneg := (bCmp_neg _ _).2 hb
        go_wp2_with (go_at_call 84; refine (find1_any _ _ _ _).mono ?_; rintro e w' ⟨rfl, hk1⟩)
        go_roundw
        case rel =>
          refine ⟨(a + b) / 2 + 1, b, by omega, by omega, by go_num, rfl, fun k y hk hy => ?_, Hhi.out, Hkp.out.trans hk1⟩
          by_cases e : k = (a + b) / 2
          · subst e; rw [Hx.out] at hy; cases hy; exact hb
          · exact bLt_trans (hr.get hy Hx.out (by omega)) hb
        case measure => simp [intOf]; omega
      · have hneg : 0 ≤ bCmp x.1 name := by
          have := mt (bCmp_neg x.1 name).1 hb; omega
        have hb' : bLt x.1 name = false := by simpa using hb
        go_wp2_with (go_at_call 84; refine (find1_any _ _ _ _).mono ?_; rintro e w' ⟨rfl, hk1⟩)
        go_roundw
        case rel =>
          refine ⟨a, (a + b) / 2, by omega, by omega, rfl, by go_num, Hlo.out, fun k y hk hy => ?_, Hkp.out.trans hk1⟩
          by_cases e : k = (a + b) / 2
          · subst e; rw [Hx.out] at hy; cases hy; exact hb'
          · have := hr.get Hx.out hy (by omega)
            cases hc : bLt y.1 name with
            | false => rfl
            | true => rw [bLt_trans this hc] at hb'; cases hb'
        case measure => simp [intOf]; omega
    · obtain rfl : b = a := by omega
      have hlb : lb es name = b := lb_unique b hb (fun j x hj hx => Hlo.out j x hj hx) (fun x hx => Hhi.out b x (Nat.le_refl _) hx)
      have Hlb := Lib.hid hlb
      have hhas := lb_has hr name
      rw [hlb] at hhas
      clear hlb
      by_cases hlt2 : b < es.length
      · obtain ⟨x, hx⟩ : ∃ x, es[b]? = some x := ⟨_, List.getElem?_eq_getElem (by omega)⟩
        obtain ⟨g, off, rfl, hS, hg, c0, c1⟩ := (h.keepN Hkp.out).ent hx
        rw [hx] at hhas
        have Hhas := Lib.hid hhas
        have Hx := Lib.hid hx
        clear hx hhas
        go_wp2_with (go_at_call 84; refine (find1_any _ _ _ _).mono ?_; rintro e w' ⟨rfl, hk1⟩)
        go_ret2
        refine ⟨?_, Hkp.out.trans hk1⟩
        rw [Hlb.out, Hhas.out]
        have hz : (bCmp x.1 name == 0) = decide (x.1 = name) := by rw [Bool.eq_iff_iff]; simpa using bCmp_zero x.1 name
        simp [hz]
      · rw [List.getElem?_eq_none (by omega)] at hhas
        have Hhas := Lib.hid hhas
        clear hhas
        go_wp2_with fail
        go_ret2
        refine ⟨?_, Hkp.out⟩
        rw [Hlb.out, Hhas.out]
        rfl
end Go.Proofs.Ytbcejodnjeklpaa
