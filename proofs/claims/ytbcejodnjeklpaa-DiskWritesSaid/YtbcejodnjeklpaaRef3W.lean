/-
  Contracts of the reference for layer 3: lists of entries.
-/
import Derived.Test.YtbcejodnjeklpaaDirW4
namespace Go.Proofs.Ytbcejodnjeklpaa
open Go.RowKit

theorem tEntR : ElemT Try.prog encEnt 48 52 (ByteArray.empty, 0) 24 :=
  .of (.agg #[.string ByteArray.empty, .int .i64 0]) Try.underlying48 (by kernel_rfl) rfl

set_option maxHeartbeats 400000 in
theorem r3find_any (S : Nat → Prop) (w : World) (p : Option Addr) (c : Nat) (es : List Ent) (name : ByteArray) (h : SlAt encEnt S w p c es) (hr : Rising es) :
    Calls Try.prog 58 #[.slice p es.length c, .string name] w fun e w' => e = .returned (.int .i64 (entIdx es name)) ∧ w = w' := by
  have hcap := h.cap
  have hmax := h.max
  unfold maxLen at hmax
  go_enter Try.func58, Try.ntmps58
  go_wp2
  go_loop [5] (fun i => ∃ k : Nat, k ≤ es.length ∧ i = .int .i64 k ∧ ∀ j x, j < k → es[j]? = some x → ¬ x.1 = name) (fun i => es.length - (intOf i).toNat)
  case atStart => exact ⟨0, Nat.zero_le _, rfl, fun j _ hj => by omega⟩
  case round =>
    obtain ⟨k, hk, rfl, hno⟩ := hrel
    have Hno := Lib.hid hno
    clear hno
    by_cases hlt : k < es.length
    · obtain ⟨x, hx⟩ : ∃ x, es[k]? = some x := ⟨_, List.getElem?_eq_getElem hlt⟩
      obtain ⟨g, off, rfl, hS, hg, c0, c1⟩ := h.ent hx
      have Hx := Lib.hid hx
      have Hq := Lib.hid (toList_eq x.1 name)
      clear hx
      by_cases he : x.1 = name
      · have hb : (x.1.toList == name.toList) = true := by rw [toList_eq]; simpa using he
        have He := Lib.hid he
        clear he
        go_wp2
        go_ret
        obtain ⟨e1, e2⟩ := lb_of_first hr Hx.out He.out
        refine ⟨ret_i64 ?_, rfl⟩
        rw [entIdx, e2, e1]; rfl
      · have hb : (x.1.toList == name.toList) = false := by rw [toList_eq]; simpa using he
        go_wp2
        go_round
        case rel =>
          refine ⟨k + 1, by omega, by go_num, fun j y hj hy => ?_⟩
          by_cases e : j = k
          · subst e; rw [Hx.out] at hy; cases hy; exact he
          · exact Hno.out j y (by omega) hy
        case measure => simp [intOf]; omega
    · go_wp2
      go_ret
      refine ⟨ret_i64 ?_, rfl⟩
      rw [entIdx, entHas_false (fun j x hx => Hno.out j x (by have := (List.getElem?_eq_some_iff.1 hx).1; omega) hx)]; rfl

set_option maxHeartbeats 1000000 in
theorem r3drop_any (S : Nat → Prop) (w : World) (p : Option Addr) (c : Nat) (es : List Ent) (name : ByteArray) (h : SlAt encEnt S w p c es) (hr : Rising es) (hn : es.length < 4294967295) (hSw : ∀ g, w.heap.size ≤ g → S g) :
    Calls Try.prog 54 #[.slice p es.length c, .string name] w fun e w' =>
      ∃ v', e = .returned (.tuple #[v', .int .i64 (hasErr es name)]) ∧ Sl encEnt S w' v' (entDel es name) ∧ Keeps NoB w w' := by
  have hcap := h.cap
  have hmax := h.max
  unfold maxLen at hmax
  have hneg := entIdx_neg (l := es) (name := name)
  cases hh : entHas es name with
  | false =>
    have He : Hid (hasErr es name = 12) := by rw [hasErr, hh]; rfl
    have hse : entDel es name = es := by
      unfold entDel
      refine List.filter_eq_self.2 fun x hx => ?_
      cases hc : decide (x.1 = name) with
      | false => rfl
      | true =>
        have : entHas es name = true := List.any_eq_true.2 ⟨x, hx, hc⟩
        rw [this] at hh; cases hh
    have Hse := Lib.hid hse
    rw [hh] at hneg
    have hneg' : entIdx es name < 0 := by simpa using hneg
    clear hh hse hneg
    go_enter Try.func54, Try.ntmps54
    go_wp2_with (go_at_call 58; refine (r3find_any _ _ _ _ _ _ h hr).mono ?_; rintro e w1 ⟨rfl, rfl⟩)
    go_ret2
    exact ⟨_, by rw [He.out]; rfl, by rw [Hse.out]; exact ⟨p, c, rfl, h⟩, Keeps.refl _ _⟩
  | true =>
    have He : Hid (hasErr es name = 0) := by rw [hasErr, hh]; rfl
    rw [hh] at hneg
    have hneg' : 0 ≤ entIdx es name := by simpa using hneg
    clear hh hneg
    go_enter Try.func54, Try.ntmps54
    go_wp2_with (go_at_call 58; refine (r3find_any _ _ _ _ _ _ h hr).mono ?_; rintro e w1 ⟨rfl, rfl⟩)
    go_loopw [6, 7] (fun o i wr => ∃ k : Nat, k ≤ es.length ∧ i = .int .i64 k ∧ Own encEnt 52 (fun g => w.heap.size ≤ g) wr o (entDel (es.take k) name) ∧ Keeps NoB w wr) (fun _ i _ => es.length - (intOf i).toNat)
    case atStart => exact ⟨0, Nat.zero_le _, rfl, Own.nil _ _ _ _, Keeps.refl _ _⟩
    case round =>
      rename_i wr
      obtain ⟨k, hk, rfl, ho, hkp⟩ := hrel
      have Hkp := Lib.hid hkp
      have hsz := hkp.size
      clear hkp
      by_cases hlt : k < es.length
      · obtain ⟨x, hx⟩ : ∃ x, es[k]? = some x := ⟨_, List.getElem?_eq_getElem hlt⟩
        obtain ⟨g, off, rfl, hS, hg, c0, c1⟩ := (h.keepN Hkp.out).ent hx
        have Hsn := Lib.hid (filter_take_snoc es (fun e => !decide (e.1 = name)) k x hx)
        have hfl : (entDel (es.take k) name).length ≤ k := Nat.le_trans (List.length_filter_le _ _) (by simp; omega)
        clear hx
        by_cases he : x.1 = name
        · have hb : (x.1.toList == name.toList) = true := by rw [toList_eq]; simpa using he
          have He2 := Lib.hid he
          clear he
          go_wp2
          go_roundw
          case rel => exact ⟨k + 1, by omega, by go_num, by unfold entDel at ho ⊢; rw [Hsn.out]; simpa [He2.out] using ho, Hkp.out⟩
          case measure => simp [intOf]; omega
        · have hb : (x.1.toList == name.toList) = false := by rw [toList_eq]; simpa using he
          have He2 := Lib.hid he
          clear he
          go_wp2_with (at_builtin; refine wpl_append rfl (.tmp 26) (.tmp 31) rfl tEntR (ho.keep ((Keeps.refl NoB _).alloc _) (fun _ _ h => h)) (own_lit (S := fun _ => True) [x] #[.string x.1, .int .i64 x.2] rfl 1 rfl trivial (by decide)).sl rfl rfl (by simp; omega) (by simp [maxLen]; omega) (by simp; omega) ?_; intro v' w' ho' hk' hf')
          go_roundw
          case rel =>
            refine ⟨k + 1, by omega, by go_num, ?_, Hkp.out.alloc _ |>.step hk' (fun g hg => Or.inr (ho.2 g hg))⟩
            unfold entDel at ho' ⊢
            rw [Hsn.out]
            have : (if (!decide (x.1 = name)) = true then [x] else []) = [x] := by rw [if_pos]; simpa using He2.out
            rw [this]
            exact ho'
          case measure => simp [intOf]; omega
      · go_wp2
        go_ret2
        refine ⟨_, by rw [He.out]; rfl, ?_, Hkp.out⟩
        rw [List.take_of_length_le (by omega)] at ho
        exact ho.sl.mono (fun g hg _ => hSw g hg)
end Go.Proofs.Ytbcejodnjeklpaa
