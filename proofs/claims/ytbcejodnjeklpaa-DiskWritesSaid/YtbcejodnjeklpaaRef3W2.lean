/-
  Contracts of the reference for layer 3, the second part: Put, Set, From.
-/
import Derived.Test.YtbcejodnjeklpaaRef3W
namespace Go.Proofs.Ytbcejodnjeklpaa
open Go.RowKit

theorem not_bPre_of_size {s p : ByteArray} (h : s.size < p.size) : bPre s p = false := by
  rw [← Bool.not_eq_true]
  intro hp
  simp only [bPre, List.isPrefixOf_iff_prefix] at hp
  have := hp.length_le
  rw [← Lib.size_eq, ← Lib.size_eq] at this
  omega

theorem bPre_extract {s p : ByteArray} (h : p.size ≤ s.size) : ((s.extract 0 p.size).toList == p.toList) = bPre s p := by
  have := Lib.hasPrefix_raw s p
  rw [decide_eq_true h, Bool.true_and] at this
  rw [this]; rfl

set_option maxHeartbeats 1000000 in
theorem r3set_any (S : Nat → Prop) (w : World) (p : Option Addr) (c : Nat) (es : List Ent) (name : ByteArray) (n : Int) (h : SlAt encEnt S w p c es) (hr : Rising es) (hn : es.length < 4294967295) (hSw : ∀ g, w.heap.size ≤ g → S g) :
    Calls Try.prog 62 #[.slice p es.length c, .string name, .int .i64 n] w fun e w' =>
      ∃ v', e = .returned (.tuple #[v', .int .i64 (hasErr es name)]) ∧ Sl encEnt S w' v' (entSet es name n) ∧ Keeps NoB w w' := by
  have hcap := h.cap
  have hmax := h.max
  have hm2 := hmax
  unfold maxLen at hmax
  have hhas := lb_has hr name
  have hfind := fun wx hx => r3find_any S wx p c es name hx hr
  cases hh : entHas es name with
  | false =>
    have He : Hid (hasErr es name = 12) := by rw [hasErr, hh]; rfl
    have hse : entSet es name n = es := by
      unfold entSet
      conv => rhs; rw [← List.map_id es]
      refine List.map_congr_left fun x hx => ?_
      rw [if_neg, id]
      intro e
      have : entHas es name = true := List.any_eq_true.2 ⟨x, hx, by simp [e]⟩
      rw [this] at hh; cases hh
    have Hse := Lib.hid hse
    simp only [entIdx, hh, Bool.false_eq_true, if_false] at hfind
    have Hfind := Lib.hid hfind
    clear hh hse hhas hfind
    go_enter Try.func62, Try.ntmps62
    go_wp2_with (go_at_call 58; refine (Hfind.out _ h).mono ?_; rintro e w1 ⟨rfl, rfl⟩)
    go_ret2
    exact ⟨_, by rw [He.out]; rfl, by rw [Hse.out]; exact ⟨p, c, rfl, h⟩, Keeps.refl _ _⟩
  | true =>
    have He : Hid (hasErr es name = 0) := by rw [hasErr, hh]; rfl
    simp only [entIdx, hh, if_true] at hfind
    rw [hh] at hhas
    cases hl : es[lb es name]? with
    | none => rw [hl] at hhas; cases hhas
    | some x =>
      rw [hl] at hhas
      have hx : x.1 = name := by simpa using hhas.symm
      have Hset := Lib.hid (set_at hr name n hl hx)
      have hll := (List.getElem?_eq_some_iff.1 hl).1
      have Hl := Lib.hid hl
      have Hfind := Lib.hid hfind
      clear hh hhas hl hx hfind
      go_enter Try.func62, Try.ntmps62
      go_wp2_with (first | (go_at_call 58; refine (Hfind.out _ h).mono ?_; rintro e w1 ⟨rfl, rfl⟩) | (at_builtin; refine wpl_append rfl (.tmp 16) (.tmp 17) rfl tEntR (Own.nil encEnt 52 (fun g => w.heap.size ≤ g) _) ⟨_, _, rfl, h⟩ rfl rfl (Nat.le_refl _) (by simp; omega) (by simp; omega) ?_; intro v' w' ho' hk' hf'; obtain ⟨g, cp, cur, hv, hSg, hg, hcap, hmax, hsz, htk⟩ := ho'.row (by simp; omega); subst hv; have hfz : ∀ j, w'.frozen? ⟨g, j, none⟩ = false := fun j => frozen_of_row w' g j cur _ hg; obtain ⟨_, _, hgo, _, _, c0, c1⟩ := ho'.at.ent (by rw [List.nil_append]; exact Hl.out); cases hgo; rw [Nat.zero_add] at c0 c1; rw [List.nil_append] at ho'))
      go_ret2
      refine ⟨_, by rw [He.out]; rfl, ?_, ?_⟩
      · have := ho'.stored (lb es name) 1 x (x.1, n) (.int .i64 n) Hl.out (by decide) rfl
        rw [Hset.out] at this
        exact this.sl.mono (fun g hg _ => hSw g hg)
      · exact (hk'.mono (fun k _ hk => by cases hk)).setCell (Or.inr hSg) _

theorem putErr_cases (es : List Ent) (name : ByteArray) : putErr es name = 18 ∨ putErr es name = 11 ∨ putErr es name = 13 ∨ putErr es name = 0 := by
  unfold putErr; split; · simp
  split; · simp
  split <;> simp

set_option maxHeartbeats 1000000 in
theorem r3put_any (S : Nat → Prop) (w : World) (p : Option Addr) (c : Nat) (es : List Ent) (name : ByteArray) (n : Int) (h : SlAt encEnt S w p c es) (hr : Rising es) (hn : es.length < 4294967295) (hSw : ∀ g, w.heap.size ≤ g → S g)
    (hm : name.size ≤ maxLen) :
    Calls Try.prog 61 #[.slice p es.length c, .string name, .int .i64 n] w fun e w' =>
      ∃ v', e = .returned (.tuple #[v', .int .i64 (putErr es name)]) ∧ Sl encEnt S w' v' (putTo es name n) ∧ Keeps NoB w w' := by
  have hcap := h.cap
  have hmax := h.max
  unfold maxLen at hmax
  have hfind := fun wx hx => r3find_any S wx p c es name hx hr
  by_cases hlong : 255 < name.size
  · have he : putErr es name = 18 := by simp [putErr, hlong]
    have He := Lib.hid he
    clear he hfind
    go_enter Try.func61, Try.ntmps61
    go_wp2
    go_ret2
    exact ⟨_, by rw [He.out]; rfl, by rw [putTo, if_neg (by rw [He.out]; decide)]; exact ⟨p, c, rfl, h⟩, Keeps.refl _ _⟩
  · cases hok : okName name with
    | false =>
      have he : putErr es name = 11 := by simp [putErr, hlong, hok]
      have hname := r2name_any name w hm
      rw [hok] at hname
      have He := Lib.hid he
      clear he hfind hok
      go_enter Try.func61, Try.ntmps61
      go_wp2_with (go_at_call 78; refine hname.mono ?_; rintro e w1 ⟨rfl, rfl⟩)
      go_ret2
      exact ⟨_, by rw [He.out]; rfl, by rw [putTo, if_neg (by rw [He.out]; decide)]; exact ⟨p, c, rfl, h⟩, Keeps.refl _ _⟩
    | true =>
      have hname := r2name_any name w hm
      rw [hok] at hname
      cases hh : entHas es name with
      | true =>
        have he : putErr es name = 13 := by simp [putErr, hlong, hok, hh]
        simp only [entIdx, hh, if_true] at hfind
        have He := Lib.hid he
        have Hfind := Lib.hid hfind
        clear he hfind hok hh
        go_enter Try.func61, Try.ntmps61
        go_wp2_with (first | (go_at_call 78; refine hname.mono ?_; rintro e w1 ⟨rfl, rfl⟩) | (go_at_call 58; refine (Hfind.out _ h).mono ?_; rintro e w1 ⟨rfl, rfl⟩))
        go_ret2
        exact ⟨_, by rw [He.out]; rfl, by rw [putTo, if_neg (by rw [He.out]; decide)]; exact ⟨p, c, rfl, h⟩, Keeps.refl _ _⟩
      | false =>
        have he : putErr es name = 0 := by simp [putErr, hlong, hok, hh]
        simp only [entIdx, hh, Bool.false_eq_true, if_false] at hfind
        have He := Lib.hid he
        have Hfind := Lib.hid hfind
        clear he hfind hok hh
        go_enter Try.func61, Try.ntmps61
        go_wp2_with (first | (go_at_call 78; refine hname.mono ?_; rintro e w1 ⟨rfl, rfl⟩) | (go_at_call 58; refine (Hfind.out _ h).mono ?_; rintro e w1 ⟨rfl, rfl⟩))
        go_loopw [8, 9] (fun o i wr => ∃ k : Nat, k ≤ es.length ∧ i = .int .i64 k ∧ Own encEnt 52 (fun g => w.heap.size ≤ g) wr o ((es.take k).filter (fun e => bLt e.1 name)) ∧ Keeps NoB w wr) (fun _ i _ => es.length - (intOf i).toNat)
        case atStart => exact ⟨0, Nat.zero_le _, rfl, Own.nil _ _ _ _, Keeps.refl _ _⟩
        case round =>
          rename_i wr
          obtain ⟨k, hk, rfl, ho, hkp⟩ := hrel
          have Hkp := Lib.hid hkp
          have hsz := hkp.size
          clear hkp
          have hfl : ((es.take k).filter (fun e => bLt e.1 name)).length ≤ k := Nat.le_trans (List.length_filter_le _ _) (by simp; omega)
          by_cases hlt : k < es.length
          · obtain ⟨x, hx⟩ : ∃ x, es[k]? = some x := ⟨_, List.getElem?_eq_getElem hlt⟩
            obtain ⟨g, off, rfl, hS, hg, c0, c1⟩ := (h.keepN Hkp.out).ent hx
            have Hsn := Lib.hid (filter_take_snoc es (fun e => bLt e.1 name) k x hx)
            have hless := less_eq x.1 name
            clear hx
            cases hp : bLt x.1 name with
            | false =>
              rw [hp] at hless
              have Hp := Lib.hid hp
              clear hp
              go_wp2
              go_roundw
              case rel => exact ⟨k + 1, by omega, by go_num, by rw [Hsn.out, Hp.out]; simpa using ho, Hkp.out⟩
              case measure => simp [intOf]; omega
            | true =>
              rw [hp] at hless
              have Hp := Lib.hid hp
              clear hp
              go_wp2_with (at_builtin; refine wpl_append rfl (.tmp 37) (.tmp 42) rfl tEntR (ho.keep ((Keeps.refl NoB _).alloc _) (fun _ _ h => h)) (own_lit (S := fun _ => True) [x] #[.string x.1, .int .i64 x.2] rfl 1 rfl trivial (by decide)).sl rfl rfl (by simp; omega) (by simp [maxLen]; omega) (by simp; omega) ?_; intro v' w' ho' hk' hf')
              go_roundw
              case rel =>
                refine ⟨k + 1, by omega, by go_num, ?_, Hkp.out.alloc _ |>.step hk' (fun g hg => Or.inr (ho.2 g hg))⟩
                rw [Hsn.out, Hp.out]
                exact ho'
              case measure => simp [intOf]; omega
          · rw [List.take_of_length_le (by omega)] at ho hfl
            go_wp2_with (at_builtin; refine wpl_append rfl (.tmp 44) (.tmp 48) rfl tEntR (ho.keep ((Keeps.refl NoB _).alloc _) (fun _ _ h => h)) (own_lit (S := fun _ => True) [(name, n)] #[.string name, .int .i64 n] rfl 1 rfl trivial (by decide)).sl rfl rfl (by simp; omega) (by simp [maxLen]; omega) (by simp; omega) ?_; intro v1 w1 ho1 hk1 hf1)
            have Hk1 : Hid (Keeps NoB w w1) := (Hkp.out.alloc _).step hk1 (fun g hg => Or.inr (ho.2 g hg))
            have hsz1 := Hk1.out.size
            have hm1 : (List.filter (fun e => bLt e.1 name) es ++ [(name, n)]).length ≤ es.length + 1 := by
              have := List.length_filter_le (fun e : Ent => bLt e.1 name) es
              rw [List.length_append, List.length_singleton]; omega
            have ho1' : Own encEnt 52 (fun g => w.heap.size ≤ g) w1 v1 (List.filter (fun e => bLt e.1 name) es ++ [(name, n)] ++ (es.take 0).filter (fun e => bLt name e.1)) := by simpa using ho1
            clear ho ho1 hk1 hf1 Hkp
            go_loopw [8, 10] (fun o i wr => ∃ k : Nat, k ≤ es.length ∧ i = .int .i64 k ∧ Own encEnt 52 (fun g => w.heap.size ≤ g) wr o (List.filter (fun e => bLt e.1 name) es ++ [(name, n)] ++ (es.take k).filter (fun e => bLt name e.1)) ∧ Keeps NoB w wr) (fun _ i _ => es.length - (intOf i).toNat)
            case atStart => exact ⟨0, Nat.zero_le _, rfl, ho1', Hk1.out⟩
            case round =>
              clear ho1'
              obtain ⟨k2, hk2, rfl, ho2, hkp⟩ := hrel
              have Hkp := Lib.hid hkp
              have hsz2 := hkp.size
              clear hkp
              have hfl2 : (List.filter (fun e => bLt e.1 name) es ++ [(name, n)] ++ (es.take k2).filter (fun e => bLt name e.1)).length ≤ es.length + 1 + k2 := by
                have := List.length_filter_le (fun e : Ent => bLt name e.1) (es.take k2)
                rw [List.length_take] at this
                rw [List.length_append]; omega
              have Hac : Hid (∀ l : List Ent, List.filter (fun e => bLt e.1 name) es ++ [(name, n)] ++ ((es.take k2).filter (fun e => bLt name e.1) ++ l) = List.filter (fun e => bLt e.1 name) es ++ [(name, n)] ++ (es.take k2).filter (fun e => bLt name e.1) ++ l) := fun l => (List.append_assoc ..).symm
              by_cases hlt2 : k2 < es.length
              · obtain ⟨x, hx⟩ : ∃ x, es[k2]? = some x := ⟨_, List.getElem?_eq_getElem hlt2⟩
                obtain ⟨g, off, rfl, hS, hg, c0, c1⟩ := (h.keepN Hkp.out).ent hx
                have Hsn := Lib.hid (filter_take_snoc es (fun e => bLt name e.1) k2 x hx)
                have hgt : (!(Op.bytesLess x.1.toList name.toList || x.1.toList == name.toList)) = bLt name x.1 := by
                  rw [less_eq, toList_eq]
                  cases h1 : bLt name x.1 with
                  | true => simp [bLt_asymm h1, (ne_of_lt h1).symm]
                  | false =>
                    cases h2 : bLt x.1 name with
                    | true => rfl
                    | false => simp [bLt_total h2 h1]
                clear hx
                cases hp : bLt name x.1 with
                | false =>
                  rw [hp] at hgt
                  have Hp := Lib.hid hp
                  clear hp
                  go_wp2
                  go_roundw
                  case rel => exact ⟨k2 + 1, by omega, by go_num, by rw [Hsn.out, Hp.out]; simpa using ho2, Hkp.out⟩
                  case measure => simp [intOf]; omega
                | true =>
                  rw [hp] at hgt
                  have Hp := Lib.hid hp
                  clear hp
                  go_wp2_with (at_builtin; refine wpl_append rfl (.tmp 63) (.tmp 68) rfl tEntR (ho2.keep ((Keeps.refl NoB _).alloc _) (fun _ _ h => h)) (own_lit (S := fun _ => True) [x] #[.string x.1, .int .i64 x.2] rfl 1 rfl trivial (by decide)).sl rfl rfl (by simp; omega) (by simp only [maxLen, List.length_singleton]; omega) (by simp only [List.length_singleton]; omega) ?_; intro v' w' ho' hk' hf')
                  go_roundw
                  case rel =>
                    refine ⟨k2 + 1, by omega, by go_num, ?_, Hkp.out.alloc _ |>.step hk' (fun g hg => Or.inr (ho2.2 g hg))⟩
                    rw [Hsn.out, Hp.out, if_pos rfl, Hac.out]
                    exact ho'
                  case measure => simp [intOf]; omega
              · rw [List.take_of_length_le (by omega)] at ho2
                go_wp2
                go_ret2
                refine ⟨_, by rw [He.out]; rfl, ?_, Hkp.out⟩
                rw [putTo, if_pos He.out]
                exact ho2.sl.mono (fun g hg _ => hSw g hg)
end Go.Proofs.Ytbcejodnjeklpaa
