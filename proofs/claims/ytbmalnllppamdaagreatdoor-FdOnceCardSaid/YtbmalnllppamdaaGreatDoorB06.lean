/-
  Contracts of the reference for layer 3: lists of entries.
-/
import Derived.Test.YtbmalnllppamdaaGreatDoorB05

set_option linter.unusedSimpArgs false
set_option linter.unusedVariables false

set_option maxRecDepth 100000
namespace Go.Proofs.YtbmalnllppamdaaGreatDoor
open Go.RowKit

theorem tEntR : ElemT Tryz.prog encEnt 97 102 (ByteArray.empty, 0) 24 :=
  .of (.agg #[.string ByteArray.empty, .int .i64 0]) Tryz.underlying97 (by kernel_rfl) rfl

set_option maxHeartbeats 400000 in
theorem r3find_any (S : Nat → Prop) (w : World) (p : Option Addr) (c : Nat) (es : List Ent) (name : ByteArray) (h : SlAt encEnt S w p c es) (hr : Rising es) :
    Calls Tryz.prog 250 #[.slice p es.length c, .string name] w fun e w' => e = .returned (.int .i64 (entIdx es name)) ∧ w = w' := by
  have hcap := h.cap
  have hmax := h.max
  unfold maxLen at hmax
  go_enter Tryz.func250, Tryz.ntmps250
  go_wp2
  go_loop [5] (fun i => ∃ k : Nat, k ≤ es.length ∧ i = .int .i64 k ∧ ∀ j x, j < k → es[j]? = some x → ¬ x.1 = name) (fun i => es.length - (intOf i).toNat)
  case atStart => exact ⟨0, Nat.zero_le _, rfl, fun j _ hj => by omega⟩
  case round =>
    obtain ⟨k, hk, rfl, hno⟩ := hrel
    have Hno := Lib.hid hno
    clear hno
    by_cases hlt : k < es.length
    · obtain ⟨x, hx⟩ : ∃ x, es[k]? = some x := ⟨_, List.getElem?_eq_getElem hlt⟩
      obtain ⟨g, off, rfl, hS, hg, c0, c1⟩ := h.ent hx
      have Hx := Lib.hid hx
      have Hq := Lib.hid (toList_eq x.1 name)
      clear hx
      by_cases he : x.1 = name
      · have hb : (x.1.toList == name.toList) = true := by rw [toList_eq]; simpa using he
        have He := Lib.hid he
        clear he
        go_wp2
        go_ret
        obtain ⟨e1, e2⟩ := lb_of_first hr Hx.out He.out
        refine ⟨ret_i64 ?_, rfl⟩
        rw [entIdx, e2, e1]; rfl
      · have hb : (x.1.toList == name.toList) = false := by rw [toList_eq]; simpa using he
        go_wp2
        go_round
        case rel =>
          refine ⟨k + 1, by omega, by go_num, fun j y hj hy => ?_⟩
          by_cases e : j = k
          · subst e; rw [Hx.out] at hy; cases hy; exact he
          · exact Hno.out j y (by omega) hy
        case measure => simp [intOf]; omega
    · go_wp2
      go_ret
      refine ⟨ret_i64 ?_, rfl⟩
      rw [entIdx, entHas_false (fun j x hx => Hno.out j x (by have := (List.getElem?_eq_some_iff.1 hx).1; omega) hx)]; rfl

set_option maxHeartbeats 1000000 in
theorem r3drop_any (S : Nat → Prop) (w : World) (p : Option Addr) (c : Nat) (es : List Ent) (name : ByteArray) (h : SlAt encEnt S w p c es) (hr : Rising es) (hn : es.length < 4294967295) (hSw : ∀ g, w.heap.size ≤ g → S g) :
    Calls Tryz.prog 201 #[.slice p es.length c, .string name] w fun e w' =>
      ∃ v', e = .returned (.tuple #[v', .int .i64 (hasErr es name)]) ∧ Sl encEnt S w' v' (entDel es name) ∧ Keeps NoB w w' := by
  have hcap := h.cap
  have hmax := h.max
  unfold maxLen at hmax
  have hneg := entIdx_neg (l := es) (name := name)
  cases hh : entHas es name with
  | false =>
    have He : Hid (hasErr es name = 12) := by rw [hasErr, hh]; rfl
    have hse : entDel es name = es := by
      unfold entDel
      refine List.filter_eq_self.2 fun x hx => ?_
      cases hc : decide (x.1 = name) with
      | false => rfl
      | true =>
        have : entHas es name = true := List.any_eq_true.2 ⟨x, hx, hc⟩
        rw [this] at hh; cases hh
    have Hse := Lib.hid hse
    rw [hh] at hneg
    have hneg' : entIdx es name < 0 := by simpa using hneg
    clear hh hse hneg
    go_enter Tryz.func201, Tryz.ntmps201
    go_wp2_with (go_at_call 250; refine (r3find_any _ _ _ _ _ _ h hr).mono ?_; rintro e w1 ⟨rfl, rfl⟩)
    go_ret2
    exact ⟨_, by rw [He.out]; rfl, by rw [Hse.out]; exact ⟨p, c, rfl, h⟩, Keeps.refl _ _⟩
  | true =>
    have He : Hid (hasErr es name = 0) := by rw [hasErr, hh]; rfl
    rw [hh] at hneg
    have hneg' : 0 ≤ entIdx es name := by simpa using hneg
    clear hh hneg
    go_enter Tryz.func201, Tryz.ntmps201
    go_wp2_with (go_at_call 250; refine (r3find_any _ _ _ _ _ _ h hr).mono ?_; rintro e w1 ⟨rfl, rfl⟩)
    go_loopw [6, 7] (fun o i wr => ∃ k : Nat, k ≤ es.length ∧ i = .int .i64 k ∧ Own encEnt 102 (fun g => w.heap.size ≤ g) wr o (entDel (es.take k) name) ∧ Keeps NoB w wr) (fun _ i _ => es.length - (intOf i).toNat)
    case atStart => exact ⟨0, Nat.zero_le _, rfl, Own.nil _ _ _ _, Keeps.refl _ _⟩
    case round =>
      rename_i wr
      obtain ⟨k, hk, rfl, ho, hkp⟩ := hrel
      have Hkp := Lib.hid hkp
      have hsz := hkp.size
      clear hkp
      by_cases hlt : k < es.length
      · obtain ⟨x, hx⟩ : ∃ x, es[k]? = some x := ⟨_, List.getElem?_eq_getElem hlt⟩
        obtain ⟨g, off, rfl, hS, hg, c0, c1⟩ := (h.keepN Hkp.out).ent hx
        have Hsn := Lib.hid (filter_take_snoc es (fun e => !decide (e.1 = name)) k x hx)
        have hfl : (entDel (es.take k) name).length ≤ k := Nat.le_trans (List.length_filter_le _ _) (by simp; omega)
        clear hx
        by_cases he : x.1 = name
        · have hb : (x.1.toList == name.toList) = true := by rw [toList_eq]; simpa using he
          have He2 := Lib.hid he
          clear he
          go_wp2
          go_roundw
          case rel => exact ⟨k + 1, by omega, by go_num, by unfold entDel at ho ⊢; rw [Hsn.out]; simpa [He2.out] using ho, Hkp.out⟩
          case measure => simp [intOf]; omega
        · have hb : (x.1.toList == name.toList) = false := by rw [toList_eq]; simpa using he
          have He2 := Lib.hid he
          clear he
          go_wp2_with (at_builtin; refine wpl_append rfl (.tmp 26) (.tmp 31) rfl tEntR (ho.keep ((Keeps.refl NoB _).alloc _) (fun _ _ h => h)) (own_lit (S := fun _ => True) [x] #[.string x.1, .int .i64 x.2] rfl 1 rfl trivial (by decide)).sl rfl rfl (by simp; omega) (by simp [maxLen]; omega) (by simp; omega) ?_; intro v' w' ho' hk' hf')
          go_roundw
          case rel =>
            refine ⟨k + 1, by omega, by go_num, ?_, Hkp.out.alloc _ |>.step hk' (fun g hg => Or.inr (ho.2 g hg))⟩
            unfold entDel at ho' ⊢
            rw [Hsn.out]
            have : (if (!decide (x.1 = name)) = true then [x] else []) = [x] := by rw [if_pos]; simpa using He2.out
            rw [this]
            exact ho'
          case measure => simp [intOf]; omega
      · go_wp2
        go_ret2
        refine ⟨_, by rw [He.out]; rfl, ?_, Hkp.out⟩
        rw [List.take_of_length_le (by omega)] at ho
        exact ho.sl.mono (fun g hg _ => hSw g hg)
end Go.Proofs.YtbmalnllppamdaaGreatDoor

/-
  Contracts of the reference for layer 3, the second part: Put, Set, From.
-/
set_option maxRecDepth 100000
namespace Go.Proofs.YtbmalnllppamdaaGreatDoor
open Go.RowKit

theorem not_bPre_of_size {s p : ByteArray} (h : s.size < p.size) : bPre s p = false := by
  rw [← Bool.not_eq_true]
  intro hp
  simp only [bPre, List.isPrefixOf_iff_prefix] at hp
  have := hp.length_le
  rw [← Lib.size_eq, ← Lib.size_eq] at this
  omega

theorem bPre_extract {s p : ByteArray} (h : p.size ≤ s.size) : ((s.extract 0 p.size).toList == p.toList) = bPre s p := by
  have := Lib.hasPrefix_raw s p
  rw [decide_eq_true h, Bool.true_and] at this
  rw [this]; rfl

set_option maxHeartbeats 1000000 in
theorem r3set_any (S : Nat → Prop) (w : World) (p : Option Addr) (c : Nat) (es : List Ent) (name : ByteArray) (n : Int) (h : SlAt encEnt S w p c es) (hr : Rising es) (hn : es.length < 4294967295) (hSw : ∀ g, w.heap.size ≤ g → S g) :
    Calls Tryz.prog 210 #[.slice p es.length c, .string name, .int .i64 n] w fun e w' =>
      ∃ v', e = .returned (.tuple #[v', .int .i64 (hasErr es name)]) ∧ Sl encEnt S w' v' (entSet es name n) ∧ Keeps NoB w w' := by
  have hcap := h.cap
  have hmax := h.max
  have hm2 := hmax
  unfold maxLen at hmax
  have hhas := lb_has hr name
  have hfind := fun wx hx => r3find_any S wx p c es name hx hr
  cases hh : entHas es name with
  | false =>
    have He : Hid (hasErr es name = 12) := by rw [hasErr, hh]; rfl
    have hse : entSet es name n = es := by
      unfold entSet
      conv => rhs; rw [← List.map_id es]
      refine List.map_congr_left fun x hx => ?_
      rw [if_neg, id]
      intro e
      have : entHas es name = true := List.any_eq_true.2 ⟨x, hx, by simp [e]⟩
      rw [this] at hh; cases hh
    have Hse := Lib.hid hse
    simp only [entIdx, hh, Bool.false_eq_true, if_false] at hfind
    have Hfind := Lib.hid hfind
    clear hh hse hhas hfind
    go_enter Tryz.func210, Tryz.ntmps210
    go_wp2_with (go_at_call 250; refine (Hfind.out _ h).mono ?_; rintro e w1 ⟨rfl, rfl⟩)
    go_ret2
    exact ⟨_, by rw [He.out]; rfl, by rw [Hse.out]; exact ⟨p, c, rfl, h⟩, Keeps.refl _ _⟩
  | true =>
    have He : Hid (hasErr es name = 0) := by rw [hasErr, hh]; rfl
    simp only [entIdx, hh, if_true] at hfind
    rw [hh] at hhas
    cases hl : es[lb es name]? with
    | none => rw [hl] at hhas; cases hhas
    | some x =>
      rw [hl] at hhas
      have hx : x.1 = name := by simpa using hhas.symm
      have Hset := Lib.hid (set_at hr name n hl hx)
      have hll := (List.getElem?_eq_some_iff.1 hl).1
      have Hl := Lib.hid hl
      have Hfind := Lib.hid hfind
      clear hh hhas hl hx hfind
      go_enter Tryz.func210, Tryz.ntmps210
      go_wp2_with (first | (go_at_call 250; refine (Hfind.out _ h).mono ?_; rintro e w1 ⟨rfl, rfl⟩) | (at_builtin; refine wpl_append rfl (.tmp 16) (.tmp 17) rfl tEntR (Own.nil encEnt 102 (fun g => w.heap.size ≤ g) _) ⟨_, _, rfl, h⟩ rfl rfl (Nat.le_refl _) (by simp; omega) (by simp; omega) ?_; intro v' w' ho' hk' hf'; obtain ⟨g, cp, cur, hv, hSg, hg, hcap, hmax, hsz, htk⟩ := ho'.row (by simp; omega); subst hv; have hfz : ∀ j, w'.frozen? ⟨g, j, none⟩ = false := fun j => frozen_of_row w' g j cur _ hg; obtain ⟨_, _, hgo, _, _, c0, c1⟩ := ho'.at.ent (by rw [List.nil_append]; exact Hl.out); cases hgo; rw [Nat.zero_add] at c0 c1; rw [List.nil_append] at ho'))
      go_ret2
      refine ⟨_, by rw [He.out]; rfl, ?_, ?_⟩
      · have := ho'.stored (lb es name) 1 x (x.1, n) (.int .i64 n) Hl.out (by decide) rfl
        rw [Hset.out] at this
        exact this.sl.mono (fun g hg _ => hSw g hg)
      · exact (hk'.mono (fun k _ hk => by cases hk)).setCell (Or.inr hSg) _

theorem putErr_cases (es : List Ent) (name : ByteArray) : putErr es name = 18 ∨ putErr es name = 11 ∨ putErr es name = 13 ∨ putErr es name = 0 := by
  unfold putErr; split; · simp
  split; · simp
  split <;> simp

set_option maxHeartbeats 1000000 in
theorem r3put_any (S : Nat → Prop) (w : World) (p : Option Addr) (c : Nat) (es : List Ent) (name : ByteArray) (n : Int) (h : SlAt encEnt S w p c es) (hr : Rising es) (hn : es.length < 4294967295) (hSw : ∀ g, w.heap.size ≤ g → S g)
    (hm : name.size ≤ maxLen) :
    Calls Tryz.prog 197 #[.slice p es.length c, .string name, .int .i64 n] w fun e w' =>
      ∃ v', e = .returned (.tuple #[v', .int .i64 (putErr es name)]) ∧ Sl encEnt S w' v' (putTo es name n) ∧ Keeps NoB w w' := by
  have hcap := h.cap
  have hmax := h.max
  unfold maxLen at hmax
  have hfind := fun wx hx => r3find_any S wx p c es name hx hr
  by_cases hlong : 255 < name.size
  · have he : putErr es name = 18 := by simp [putErr, hlong]
    have He := Lib.hid he
    clear he hfind
    go_enter Tryz.func197, Tryz.ntmps197
    go_wp2
    go_ret2
    exact ⟨_, by rw [He.out]; rfl, by rw [putTo, if_neg (by rw [He.out]; decide)]; exact ⟨p, c, rfl, h⟩, Keeps.refl _ _⟩
  · cases hok : okName name with
    | false =>
      have he : putErr es name = 11 := by simp [putErr, hlong, hok]
      have hname := r2name_any name w hm
      rw [hok] at hname
      have He := Lib.hid he
      clear he hfind hok
      go_enter Tryz.func197, Tryz.ntmps197
      go_wp2_with (go_at_call 249; refine hname.mono ?_; rintro e w1 ⟨rfl, rfl⟩)
      go_ret2
      exact ⟨_, by rw [He.out]; rfl, by rw [putTo, if_neg (by rw [He.out]; decide)]; exact ⟨p, c, rfl, h⟩, Keeps.refl _ _⟩
    | true =>
      have hname := r2name_any name w hm
      rw [hok] at hname
      cases hh : entHas es name with
      | true =>
        have he : putErr es name = 13 := by simp [putErr, hlong, hok, hh]
        simp only [entIdx, hh, if_true] at hfind
        have He := Lib.hid he
        have Hfind := Lib.hid hfind
        clear he hfind hok hh
        go_enter Tryz.func197, Tryz.ntmps197
        go_wp2_with (first | (go_at_call 249; refine hname.mono ?_; rintro e w1 ⟨rfl, rfl⟩) | (go_at_call 250; refine (Hfind.out _ h).mono ?_; rintro e w1 ⟨rfl, rfl⟩))
        go_ret2
        exact ⟨_, by rw [He.out]; rfl, by rw [putTo, if_neg (by rw [He.out]; decide)]; exact ⟨p, c, rfl, h⟩, Keeps.refl _ _⟩
      | false =>
        have he : putErr es name = 0 := by simp [putErr, hlong, hok, hh]
        simp only [entIdx, hh, Bool.false_eq_true, if_false] at hfind
        have He := Lib.hid he
        have Hfind := Lib.hid hfind
        clear he hfind hok hh
        go_enter Tryz.func197, Tryz.ntmps197
        go_wp2_with (first | (go_at_call 249; refine hname.mono ?_; rintro e w1 ⟨rfl, rfl⟩) | (go_at_call 250; refine (Hfind.out _ h).mono ?_; rintro e w1 ⟨rfl, rfl⟩))
        go_loopw [8, 9] (fun o i wr => ∃ k : Nat, k ≤ es.length ∧ i = .int .i64 k ∧ Own encEnt 102 (fun g => w.heap.size ≤ g) wr o ((es.take k).filter (fun e => bLt e.1 name)) ∧ Keeps NoB w wr) (fun _ i _ => es.length - (intOf i).toNat)
        case atStart => exact ⟨0, Nat.zero_le _, rfl, Own.nil _ _ _ _, Keeps.refl _ _⟩
        case round =>
          rename_i wr
          obtain ⟨k, hk, rfl, ho, hkp⟩ := hrel
          have Hkp := Lib.hid hkp
          have hsz := hkp.size
          clear hkp
          have hfl : ((es.take k).filter (fun e => bLt e.1 name)).length ≤ k := Nat.le_trans (List.length_filter_le _ _) (by simp; omega)
          by_cases hlt : k < es.length
          · obtain ⟨x, hx⟩ : ∃ x, es[k]? = some x := ⟨_, List.getElem?_eq_getElem hlt⟩
            obtain ⟨g, off, rfl, hS, hg, c0, c1⟩ := (h.keepN Hkp.out).ent hx
            have Hsn := Lib.hid (filter_take_snoc es (fun e => bLt e.1 name) k x hx)
            have hless := less_eq x.1 name
            clear hx
            cases hp : bLt x.1 name with
            | false =>
              rw [hp] at hless
              have Hp := Lib.hid hp
              clear hp
              go_wp2
              go_roundw
              case rel => exact ⟨k + 1, by omega, by go_num, by rw [Hsn.out, Hp.out]; simpa using ho, Hkp.out⟩
              case measure => simp [intOf]; omega
            | true =>
              rw [hp] at hless
              have Hp := Lib.hid hp
              clear hp
              go_wp2_with (at_builtin; refine wpl_append rfl (.tmp 37) (.tmp 42) rfl tEntR (ho.keep ((Keeps.refl NoB _).alloc _) (fun _ _ h => h)) (own_lit (S := fun _ => True) [x] #[.string x.1, .int .i64 x.2] rfl 1 rfl trivial (by decide)).sl rfl rfl (by simp; omega) (by simp [maxLen]; omega) (by simp; omega) ?_; intro v' w' ho' hk' hf')
              go_roundw
              case rel =>
                refine ⟨k + 1, by omega, by go_num, ?_, Hkp.out.alloc _ |>.step hk' (fun g hg => Or.inr (ho.2 g hg))⟩
                rw [Hsn.out, Hp.out]
                exact ho'
              case measure => simp [intOf]; omega
          · rw [List.take_of_length_le (by omega)] at ho hfl
            go_wp2_with (at_builtin; refine wpl_append rfl (.tmp 44) (.tmp 48) rfl tEntR (ho.keep ((Keeps.refl NoB _).alloc _) (fun _ _ h => h)) (own_lit (S := fun _ => True) [(name, n)] #[.string name, .int .i64 n] rfl 1 rfl trivial (by decide)).sl rfl rfl (by simp; omega) (by simp [maxLen]; omega) (by simp; omega) ?_; intro v1 w1 ho1 hk1 hf1)
            have Hk1 : Hid (Keeps NoB w w1) := (Hkp.out.alloc _).step hk1 (fun g hg => Or.inr (ho.2 g hg))
            have hsz1 := Hk1.out.size
            have hm1 : (List.filter (fun e => bLt e.1 name) es ++ [(name, n)]).length ≤ es.length + 1 := by
              have := List.length_filter_le (fun e : Ent => bLt e.1 name) es
              rw [List.length_append, List.length_singleton]; omega
            have ho1' : Own encEnt 102 (fun g => w.heap.size ≤ g) w1 v1 (List.filter (fun e => bLt e.1 name) es ++ [(name, n)] ++ (es.take 0).filter (fun e => bLt name e.1)) := by simpa using ho1
            clear ho ho1 hk1 hf1 Hkp
            go_loopw [8, 10] (fun o i wr => ∃ k : Nat, k ≤ es.length ∧ i = .int .i64 k ∧ Own encEnt 102 (fun g => w.heap.size ≤ g) wr o (List.filter (fun e => bLt e.1 name) es ++ [(name, n)] ++ (es.take k).filter (fun e => bLt name e.1)) ∧ Keeps NoB w wr) (fun _ i _ => es.length - (intOf i).toNat)
            case atStart => exact ⟨0, Nat.zero_le _, rfl, ho1', Hk1.out⟩
            case round =>
              clear ho1'
              obtain ⟨k2, hk2, rfl, ho2, hkp⟩ := hrel
              have Hkp := Lib.hid hkp
              have hsz2 := hkp.size
              clear hkp
              have hfl2 : (List.filter (fun e => bLt e.1 name) es ++ [(name, n)] ++ (es.take k2).filter (fun e => bLt name e.1)).length ≤ es.length + 1 + k2 := by
                have := List.length_filter_le (fun e : Ent => bLt name e.1) (es.take k2)
                rw [List.length_take] at this
                rw [List.length_append]; omega
              have Hac : Hid (∀ l : List Ent, List.filter (fun e => bLt e.1 name) es ++ [(name, n)] ++ ((es.take k2).filter (fun e => bLt name e.1) ++ l) = List.filter (fun e => bLt e.1 name) es ++ [(name, n)] ++ (es.take k2).filter (fun e => bLt name e.1) ++ l) := fun l => (List.append_assoc ..).symm
              by_cases hlt2 : k2 < es.length
              · obtain ⟨x, hx⟩ : ∃ x, es[k2]? = some x := ⟨_, List.getElem?_eq_getElem hlt2⟩
                obtain ⟨g, off, rfl, hS, hg, c0, c1⟩ := (h.keepN Hkp.out).ent hx
                have Hsn := Lib.hid (filter_take_snoc es (fun e => bLt name e.1) k2 x hx)
                have hgt : (!(Op.bytesLess x.1.toList name.toList || x.1.toList == name.toList)) = bLt name x.1 := by
                  rw [less_eq, toList_eq]
                  cases h1 : bLt name x.1 with
                  | true => simp [bLt_asymm h1, (ne_of_lt h1).symm]
                  | false =>
                    cases h2 : bLt x.1 name with
                    | true => rfl
                    | false => simp [bLt_total h2 h1]
                clear hx
                cases hp : bLt name x.1 with
                | false =>
                  rw [hp] at hgt
                  have Hp := Lib.hid hp
                  clear hp
                  go_wp2
                  go_roundw
                  case rel => exact ⟨k2 + 1, by omega, by go_num, by rw [Hsn.out, Hp.out]; simpa using ho2, Hkp.out⟩
                  case measure => simp [intOf]; omega
                | true =>
                  rw [hp] at hgt
                  have Hp := Lib.hid hp
                  clear hp
                  go_wp2_with (at_builtin; refine wpl_append rfl (.tmp 63) (.tmp 68) rfl tEntR (ho2.keep ((Keeps.refl NoB _).alloc _) (fun _ _ h => h)) (own_lit (S := fun _ => True) [x] #[.string x.1, .int .i64 x.2] rfl 1 rfl trivial (by decide)).sl rfl rfl (by simp; omega) (by simp only [maxLen, List.length_singleton]; omega) (by simp only [List.length_singleton]; omega) ?_; intro v' w' ho' hk' hf')
                  go_roundw
                  case rel =>
                    refine ⟨k2 + 1, by omega, by go_num, ?_, Hkp.out.alloc _ |>.step hk' (fun g hg => Or.inr (ho2.2 g hg))⟩
                    rw [Hsn.out, Hp.out, if_pos rfl, Hac.out]
                    exact ho'
                  case measure => simp [intOf]; omega
              · rw [List.take_of_length_le (by omega)] at ho2
                go_wp2
                go_ret2
                refine ⟨_, by rw [He.out]; rfl, ?_, Hkp.out⟩
                rw [putTo, if_pos He.out]
                exact ho2.sl.mono (fun g hg _ => hSw g hg)
end Go.Proofs.YtbmalnllppamdaaGreatDoor

/-
  Directories by what they own: the contracts of Put, Set, Drop once more, with the row's block as the footprint.
-/
set_option maxRecDepth 100000
namespace Go.Proofs.YtbmalnllppamdaaGreatDoor
open Go.RowKit

/-- The directory at a holds es; v: the slice in its cell. -/
def IsD (w : World) (a : Addr) (v : Value) (es : List Ent) : Prop := IsDir (fun g => v.ownBlock = some g) w a v es

theorem IsDir.d {G : Nat → Prop} {w : World} {a : Addr} {v : Value} {es : List Ent} (h : IsDir G w a v es) : IsD w a v es :=
  ⟨h.cell, h.free, h.spot, h.own.mono (fun _ hg _ => hg), h.rising, h.names, h.apart⟩
theorem IsD.any {G : Nat → Prop} {w : World} {a : Addr} {v : Value} {es : List Ent} (h : IsD w a v es) (hG : ∀ g, v.ownBlock = some g → G g) : IsDir G w a v es :=
  ⟨h.cell, h.free, h.spot, h.own.mono (fun g hg _ => hG g hg), h.rising, h.names, h.apart⟩
theorem IsD.lt {w : World} {a : Addr} {v : Value} {es : List Ent} (h : IsD w a v es) : a.block < w.heap.size := lt_of_cell h.cell
theorem IsD.ownlt {w : World} {a : Addr} {v : Value} {es : List Ent} (h : IsD w a v es) : ∀ g, v.ownBlock = some g → g < w.heap.size := h.own.lt

theorem IsD.keep {F : Nat → Prop} {w w' : World} {a : Addr} {v : Value} {es : List Ent} (h : IsD w a v es) (hk : Keeps F w w') (ha : ¬ F a.block) (ho : ∀ g, v.ownBlock = some g → ¬ F g) : IsD w' a v es :=
  ⟨(hk.cell h.lt ha).trans h.cell, (hk.frozen h.lt ha).trans h.free, h.spot, h.own.keep hk ho, h.rising, h.names, h.apart⟩

/-- From w to w' the directory at a (slice v) has come to hold es'; nothing but it has turned. -/
def DTo (w w' : World) (a : Addr) (v : Value) (es' : List Ent) : Prop :=
  ∃ v', IsD w' a v' es' ∧ Keeps (fun g => v.ownBlock = some g) (w.setCell a v') w' ∧ ∀ g, v'.ownBlock = some g → v.ownBlock = some g ∨ w.heap.size ≤ g

theorem DirTo.d {w w' : World} {a : Addr} {v : Value} {es' : List Ent} (h : DirTo (fun g => v.ownBlock = some g ∨ w.heap.size ≤ g) w w' a es') : DTo w w' a v es' := by
  obtain ⟨v', h1, h2⟩ := h
  refine ⟨v', h1.d, h2.mono (fun g hg h => h.elim id (fun h => ?_)), h1.own.2⟩
  have : (w.setCell a v').heap.size = w.heap.size := by simp [World.setCell]
  omega

theorem put_d (w : World) (a : Addr) (v : Value) (es : List Ent) (name : ByteArray) (n : Int) (h : IsD w a v es) (hn : es.length < 4294967295) :
    Calls Tryz.prog 194 #[.pointer (some a), .string name, .int .i64 n] w fun e w' => e = .returned (.int .i64 (putErr es name)) ∧ DTo w w' a v (putTo es name n) :=
  (put_any _ w a v es name n (h.any (G := fun g => v.ownBlock = some g ∨ w.heap.size ≤ g) (fun g hg => .inl hg)) hn (fun g hg => .inr hg)).mono fun _ _ ⟨h1, h2⟩ => ⟨h1, h2.d⟩

theorem set_d (w : World) (a : Addr) (v : Value) (es : List Ent) (name : ByteArray) (n : Int) (h : IsD w a v es) (hn : es.length < 4294967295) :
    Calls Tryz.prog 251 #[.pointer (some a), .string name, .int .i64 n] w fun e w' => e = .returned (.int .i64 (hasErr es name)) ∧ DTo w w' a v (entSet es name n) :=
  (set_any _ w a v es name n (h.any (G := fun g => v.ownBlock = some g ∨ w.heap.size ≤ g) (fun g hg => .inl hg)) hn).mono fun _ _ ⟨h1, h2⟩ => ⟨h1, h2.d⟩

theorem drop_d (w : World) (a : Addr) (v : Value) (es : List Ent) (name : ByteArray) (h : IsD w a v es) (hn : es.length < 4294967295) :
    Calls Tryz.prog 195 #[.pointer (some a), .string name] w fun e w' => e = .returned (.int .i64 (hasErr es name)) ∧ DTo w w' a v (entDel es name) :=
  (drop_any _ w a v es name (h.any (G := fun g => v.ownBlock = some g ∨ w.heap.size ≤ g) (fun g hg => .inl hg)) hn).mono fun _ _ ⟨h1, h2⟩ => ⟨h1, h2.d⟩

/-- What keeps the directory's own blocks free is kept. -/
theorem DTo.keeps {F : Nat → Prop} {W w w' : World} {a : Addr} {v : Value} {es' : List Ent} (h : DTo w w' a v es') (hk : Keeps F W w) (ha : F a.block ∨ W.heap.size ≤ a.block) (hv : ∀ g, v.ownBlock = some g → F g ∨ W.heap.size ≤ g) : Keeps F W w' := by
  obtain ⟨v', _, h2, _⟩ := h
  exact (hk.setCell ha v').step h2 hv

theorem DTo.size {w w' : World} {a : Addr} {v : Value} {es' : List Ent} (h : DTo w w' a v es') : w.heap.size ≤ w'.heap.size := by
  obtain ⟨v', _, h2, _⟩ := h
  have := h2.size
  simpa [World.setCell] using this

theorem filters_len (es : List Ent) (name : ByteArray) : (es.filter (fun e => bLt e.1 name)).length + (es.filter (fun e => bLt name e.1)).length ≤ es.length := by
  induction es with
  | nil => simp
  | cons a l ih =>
    rw [List.filter_cons, List.filter_cons, List.length_cons]
    cases h1 : bLt a.1 name with
    | true => simp [bLt_asymm h1]; omega
    | false => cases h2 : bLt name a.1 <;> simp <;> omega

theorem putTo_len (es : List Ent) (name : ByteArray) (n : Int) : (putTo es name n).length ≤ es.length + 1 := by
  have h1 := filters_len es name
  unfold putTo
  split
  · unfold entPut
    simp only [List.length_append, List.length_singleton]
    omega
  · omega

theorem okName_small {s : ByteArray} (h : okName s = true) : ¬ 255 < s.size := by simp [okName] at h; omega

theorem putErr_zero {l : List Ent} {name : ByteArray} : putErr l name = 0 ↔ okName name = true ∧ entHas l name = false := by
  unfold putErr
  constructor
  · intro h
    split at h; · cases h
    split at h; · cases h
    split at h; · cases h
    · next h2 h3 => exact ⟨by simpa using h2, by simpa using h3⟩
  · rintro ⟨h1, h2⟩
    rw [if_neg (okName_small h1), if_neg (by simp [h1]), if_neg (by simp [h2])]

theorem putTo_rising {es : List Ent} (h : Rising es) (name : ByteArray) (n : Int) : Rising (putTo es name n) := by
  unfold putTo; split
  · exact h.put name n
  · exact h

/-- A new directory. -/
theorem IsD.new (w : World) (t : TypeId) : IsD (w.alloc (.cells #[.slice none 0 0] t)) ⟨w.heap.size, 0, none⟩ (.slice none 0 0) [] :=
  ⟨cell_of_row _ _ _ _ _ _ (heap_alloc_new w _), frozen_of_row _ _ _ _ _ (heap_alloc_new w _), rfl, Own.nil _ _ _ _, List.Pairwise.nil, (fun _ h => by cases h), (fun h => by simp [Value.ownBlock] at h)⟩

end Go.Proofs.YtbmalnllppamdaaGreatDoor
