/-
  The walk of DirBack.
-/
import Derived.Test.YtggpepjhlpeeiaaLaw3c
namespace Go.Proofs.Ytggpepjhlpeeiaa
open Go.RowKit

set_option maxHeartbeats 1000000 in
set_option maxRecDepth 100000 in
theorem orders_out (W : World) (p : Option Addr) (c : Nat) (names : List ByteArray) (t : Int) (hl : (names.length : Int) ≤ 9223372036854775807) (h : names.length < 1 ∨ 60 < names.length ∨ t < 0) :
    Calls Try.prog 3 #[.slice p names.length c, .int .i64 t] W fun e w' => e = .returned (.bool true) ∧ Keeps NoB W w' := by
  by_cases h1 : names.length < 1
  · clear h
    go_enter Try.func3, Try.ntmps3
    go_wp2_with (go_at_call 6; refine (anchor_any _).mono ?_; rintro e w1 ⟨rfl, hk1⟩)
    go_ret
    exact ⟨rfl, hk1⟩
  · by_cases h2 : 60 < names.length
    · clear h
      go_enter Try.func3, Try.ntmps3
      go_wp2_with (go_at_call 6; refine (anchor_any _).mono ?_; rintro e w1 ⟨rfl, hk1⟩)
      go_ret
      exact ⟨rfl, hk1⟩
    · have h3 : t < 0 := by omega
      clear h
      go_enter Try.func3, Try.ntmps3
      go_wp2_with (go_at_call 6; refine (anchor_any _).mono ?_; rintro e w1 ⟨rfl, hk1⟩)
      go_ret
      exact ⟨rfl, hk1⟩

theorem orders_all (W : World) (p : Option Addr) (c : Nat) (names : List ByteArray) (t : Int) (h : SlAt encStr (fun g => g < W.heap.size) W p c names) (ht : (Lit.int .i64 t).wf = true) :
    Calls Try.prog 3 #[.slice p names.length c, .int .i64 t] W fun e w' => e = .returned (.bool true) ∧ Keeps NoB W w' := by
  have hcap := h.cap
  have hmax := h.max
  unfold maxLen at hmax
  have h1 : IntKind.i64.max = 9223372036854775807 := rfl
  simp only [Lit.wf, Bool.and_eq_true, decide_eq_true_eq] at ht
  by_cases hb : names.length < 1 ∨ 60 < names.length ∨ t < 0
  · exact orders_out W p c names t (by omega) hb
  · obtain ⟨m, rfl⟩ := Int.eq_ofNat_of_zero_le (show 0 ≤ t by omega)
    exact orders_any W p c names m h (by omega) (by omega) (by omega)

/-- Names put one after another, each with its place for its node. -/
def putNum (l : List ByteArray) : Nat → List Ent
  | 0 => []
  | k + 1 => putTo (putNum l k) (l.getD k ByteArray.empty) k

theorem putTo_names {es : List Ent} {name : ByteArray} {n : Int} (h : ∀ e ∈ es, okName e.1 = true) : ∀ e ∈ putTo es name n, okName e.1 = true := by
  intro e he
  unfold putTo at he
  split at he
  · next h0 =>
    obtain ⟨hok, hno⟩ := putErr_zero.1 h0
    rcases (mem_entPut hno e).1 he with he | rfl
    · exact h e he
    · exact hok
  · exact h e he

theorem putNum_spec (l : List ByteArray) (k : Nat) : Rising (putNum l k) ∧ (putNum l k).length ≤ k ∧ ∀ e ∈ putNum l k, okName e.1 = true := by
  induction k with
  | zero => exact ⟨List.Pairwise.nil, Nat.le_refl _, fun _ h => by cases h⟩
  | succ k ih =>
    obtain ⟨h1, h2, h3⟩ := ih
    exact ⟨putTo_rising h1 _ _, by have := putTo_len (putNum l k) (l.getD k ByteArray.empty) k; simp only [putNum]; omega, putTo_names h3⟩

theorem entGet_isSome (es : List Ent) (name : ByteArray) : (entGet es name).isSome = entHas es name := by
  unfold entGet entHas
  rw [Option.isSome_map]
  induction es with
  | nil => rfl
  | cons a l ih => rw [List.find?_cons, List.any_cons]; cases h : decide (a.1 = name) <;> simp [ih]

theorem entHas_ok {es : List Ent} {name : ByteArray} (h : ∀ e ∈ es, okName e.1 = true) (hh : entHas es name = true) : okName name = true := by
  obtain ⟨x, hx, he⟩ := List.any_eq_true.1 hh
  have : x.1 = name := by simpa using he
  rw [← this]; exact h x hx

theorem entDel_put {es : List Ent} (h : Rising es) {name : ByteArray} {n : Int} (hno : entHas es name = false) : entDel (entPut es name n) name = es := by
  refine rising_ext ((h.put name n).del name) h fun e => ?_
  unfold entDel
  rw [List.mem_filter, mem_entPut hno]
  constructor
  · rintro ⟨h1 | h1, h2⟩
    · exact h1
    · subst h1; simp at h2
  · intro he
    refine ⟨.inl he, ?_⟩
    cases hd : decide (e.1 = name) with
    | false => rfl
    | true =>
      have : entHas es name = true := List.any_eq_true.2 ⟨e, he, hd⟩
      rw [this] at hno; cases hno

theorem entGet_put {es : List Ent} (h : Rising es) {name : ByteArray} {n : Int} (hno : entHas es name = false) : entGet (entPut es name n) name = some n := by
  have hp := h.put name n
  have hm : (name, n) ∈ entPut es name n := (mem_entPut hno _).2 (.inr rfl)
  obtain ⟨k, hk⟩ := List.mem_iff_getElem?.1 hm
  obtain ⟨h1, _⟩ := lb_of_first hp hk rfl
  rw [get_at hp, h1, hk]
  simp

theorem entGet_none {es : List Ent} {name : ByteArray} (h : entHas es name = false) : entGet es name = none := by
  have := entGet_isSome es name
  rw [h] at this
  simpa using this

/-- What the end of DirBack compares: two lists that are one. -/
def SameEnd (W w : World) (e : Ending) : Prop := e = .returned (.bool true) ∧ Keeps NoB W w

set_option maxHeartbeats 4000000 in
set_option maxRecDepth 100000 in
theorem back_any (W : World) (p : Option Addr) (c : Nat) (names : List ByteArray) (name : ByteArray) (node : Int) (h : SlAt encStr (fun g => g < W.heap.size) W p c names) (hm : name.size ≤ maxLen) :
    Calls Try.prog 4 #[.slice p names.length c, .string name, .int .i64 node] W fun e w' => SameEnd W w' e := by
  have hcap := h.cap
  have hmax := h.max
  have hm' := hm
  unfold maxLen at hmax hm'
  by_cases h1 : 60 < names.length
  · go_enter Try.func4, Try.ntmps4
    go_wp2_with (go_at_call 6; refine (anchor_any _).mono ?_; rintro e w1 ⟨rfl, hk1⟩)
    go_ret
    exact ⟨rfl, hk1⟩
  · by_cases h2 : 500 < name.size
    · go_enter Try.func4, Try.ntmps4
      go_wp2_with (go_at_call 6; refine (anchor_any _).mono ?_; rintro e w1 ⟨rfl, hk1⟩)
      go_ret
      exact ⟨rfl, hk1⟩
    · go_enter Try.func4, Try.ntmps4
      go_wp2_with (go_at_call 6; refine (anchor_any _).mono ?_; rintro e w1 ⟨rfl, hk1⟩)
      have hB : W.heap.size ≤ w1.heap.size := hk1.size
      have Hst : Hid (∃ v, IsD (w1.alloc (.cells #[.slice none 0 0] 26)) ⟨w1.heap.size, 0, none⟩ v (putNum names 0) ∧ (∀ g, v.ownBlock = some g → w1.heap.size < g) ∧ Keeps NoB W (w1.alloc (.cells #[.slice none 0 0] 26))) :=
        ⟨_, IsD.new w1 _, (fun g hg => by cases hg), hk1.alloc _⟩
      clear hk1
      go_loopw [8, 9, 32] (fun _ _ i wr => ∃ (k : Nat) (v : Value), k ≤ names.length ∧ i = .int .i64 k ∧ IsD wr ⟨w1.heap.size, 0, none⟩ v (putNum names k) ∧ (∀ g, v.ownBlock = some g → w1.heap.size < g) ∧ Keeps NoB W wr) (fun _ _ i _ => names.length - (intOf i).toNat)
      case atStart => obtain ⟨v, a, b, d⟩ := Hst.out; exact ⟨0, v, Nat.zero_le _, rfl, a, b, d⟩
      case round =>
        obtain ⟨k, v, hk, rfl, hd, hv, hkp⟩ := hrel
        have Hd := Lib.hid hd
        have Hv := Lib.hid hv
        have Hkp := Lib.hid hkp
        have hlen := (putNum_spec names k).2.1
        clear hd hv hkp Hst
        by_cases hlt : k < names.length
        · obtain ⟨x, hx⟩ : ∃ x, names[k]? = some x := ⟨_, List.getElem?_eq_getElem hlt⟩
          obtain ⟨g, off, rfl, hS, hg, c0⟩ := (h.keepN Hkp.out).str hx
          have Hx : Hid (names.getD k ByteArray.empty = x) := by show _ = _; rw [List.getD_eq_getElem?_getD, hx]; rfl
          clear hx
          by_cases hsz : 500 < x.size
          · go_wp2
            go_ret
            exact ⟨rfl, Hkp.out⟩
          · go_wp2_with (go_at_call 7; fail)
            refine (put_d _ _ _ _ _ _ Hd.out (by omega)).mono ?_
            rintro e w2 ⟨rfl, ht⟩
            rw [← Hx.out] at ht
            have Hkp2 := Lib.hid (ht.keeps Hkp.out (Or.inr hB) (fun g hg => Or.inr (by have := Hv.out g hg; omega)))
            have hdl : w1.heap.size < wr.heap.size := Hd.out.lt
            obtain ⟨v', hd', _, hf'⟩ := ht
            have Hd' := Lib.hid hd'
            have Hv' : Hid (∀ g, v'.ownBlock = some g → w1.heap.size < g) := fun g hg => (hf' g hg).elim (Hv.out g) (fun h => by omega)
            clear hd' hf' c0
            go_wp2_with (fail)
            go_roundw
            case rel => exact ⟨k + 1, v', by omega, by go_num, Hd'.out, Hv'.out, Hkp2.out⟩
            case measure => simp [intOf]; omega
        · obtain rfl : k = names.length := by omega
          obtain ⟨hri, hlen, hnm⟩ := putNum_spec names names.length
          have Hri := Lib.hid hri
          have Hnm := Lib.hid hnm
          clear hri hnm
          generalize putNum names names.length = es at *
          go_wp2_with (fail)
          refine (list_any _ _ _ _ _ Hd.out (by omega)).mono ?_
          rintro e w2 ⟨sa, rfl, hoa, hk2⟩
          have Hd2 := Lib.hid (Hd.out.keep hk2 (fun h => h) (fun _ _ h => h))
          have hkk : Keeps NoB W w2 := Hkp.out.trans hk2
          have hsa := hoa.sl.mono (S' := fun g => wr.heap.size ≤ g ∧ g < w2.heap.size) (fun g hg hl => ⟨hg, hl⟩)
          have hol := Hd.out.ownlt
          have hdl : w1.heap.size < wr.heap.size := Hd.out.lt
          have Hol := Lib.hid hol
          clear Hd hoa hol
          cases hh : entHas es name with
          | true =>
            have hget : (entGet es name).isSome = true := by rw [entGet_isSome, hh]
            have hok := entHas_ok Hnm.out hh
            have hpe : putErr es name = 13 := by
              unfold putErr; rw [if_neg (okName_small hok), if_neg (by simp [hok]), if_pos hh]
            have Hpt : Hid (putTo es name node = es) := by show _ = _; unfold putTo; rw [if_neg (by rw [hpe]; decide)]
            clear hok hh
            go_wp2_with (fail)
            refine (get_any _ _ _ _ _ _ Hd2.out (by omega)).mono ?_
            rintro e w3 ⟨rfl, hk3⟩
            have Hd3 := Lib.hid (Hd2.out.keep hk3 (fun h => h) (fun _ _ h => h))
            have hsa3 := hsa.keepN hk3
            clear Hd2 hsa
            go_wp2_with (fail)
            refine (put_d _ _ _ _ _ _ Hd3.out (by omega)).mono ?_
            rintro e w4 ⟨rfl, ht⟩
            have hkk4 := ht.keeps (hkk.trans hk3) (Or.inr hB) (fun g hg => Or.inr (by have := Hv.out g hg; omega))
            obtain ⟨v4, hd4, _, hf4⟩ := ht
            rw [Hpt.out] at hd4
            have Hd4 := Lib.hid hd4
            clear hd4
            obtain ⟨pa, ca, rfl, hsa3⟩ := hsa3
            go_wp2_with (fail)
            refine (get_any _ _ _ _ _ _ Hd4.out (by omega)).mono ?_
            rintro e w5 ⟨rfl, hk5⟩
            have Hd5 := Lib.hid (Hd4.out.keep hk5 (fun h => h) (fun _ _ h => h))
            go_wp2_with (go_at_call 10; refine (len_any _ _ _ _ _ Hd5.out).mono ?_; rintro e w6 ⟨rfl, rfl⟩)
            go_ret
            exact ⟨rfl, hkk4.trans hk5⟩
          | false =>
            have hget : (entGet es name).isSome = false := by rw [entGet_isSome, hh]
            by_cases hpe : putErr es name = 0
            · obtain ⟨hok, hno⟩ := putErr_zero.1 hpe
              have Hpt : Hid (putTo es name node = entPut es name node) := by show _ = _; unfold putTo; rw [if_pos hpe]
              have Hgp := Lib.hid (entGet_put Hri.out (n := node) hh)
              have Hdp := Lib.hid (entDel_put Hri.out (n := node) hh)
              have Hpl := Lib.hid (putTo_len es name node)
              have hhp : hasErr (entPut es name node) name = 0 := by
                rw [hasErr, ← entGet_isSome, Hgp.out]; rfl
              clear hok hh hno
              go_wp2_with (fail)
              refine (get_any _ _ _ _ _ _ Hd2.out (by omega)).mono ?_
              rintro e w3 ⟨rfl, hk3⟩
              have Hd3 := Lib.hid (Hd2.out.keep hk3 (fun h => h) (fun _ _ h => h))
              have hsa3 := hsa.keepN hk3
              clear Hd2 hsa
              go_wp2_with (fail)
              refine (put_d _ _ _ _ _ _ Hd3.out (by omega)).mono ?_
              rintro e w4 ⟨rfl, ht⟩
              rw [Hpt.out] at ht
              have hkk4 := ht.keeps (hkk.trans hk3) (Or.inr hB) (fun g hg => Or.inr (by have := Hv.out g hg; omega))
              have hsa4 := hsa3.keep (ht.keeps (F := fun g => g = w1.heap.size ∨ v.ownBlock = some g) (Keeps.refl _ _) (Or.inl (Or.inl rfl)) (fun g hg => Or.inl (Or.inr hg)))
                (fun g hg _ hF => hF.elim (fun e => by have := hg.1; omega) (fun e => by have := Hol.out g e; omega))
              have hs23 := hk3.size
              have hs34 := ht.size
              obtain ⟨v4, hd4, _, hf4⟩ := ht
              have Hv4 : Hid (∀ g, v4.ownBlock = some g → w1.heap.size < g ∧ ¬ (wr.heap.size ≤ g ∧ g < w2.heap.size)) := fun g hg => (hf4 g hg).elim (fun e => ⟨Hv.out g e, fun h => by have := Hol.out g e; omega⟩) (fun h => ⟨by have := hk2.size; omega, fun h2 => by omega⟩)
              have Hd4 := Lib.hid hd4
              clear hd4 hf4 hsa3 Hd3
              obtain ⟨pa, ca, rfl, hsa4⟩ := hsa4
              rw [Hpt.out] at Hpl
              have hpl := Hpl.out
              have hgp : (entGet (entPut es name node) name).isSome = true := by rw [Hgp.out]; rfl
              have hgv : (entGet (entPut es name node) name).getD 0 = node := by rw [Hgp.out]; rfl
              go_wp2_with (fail)
              refine (get_any _ _ _ _ _ _ Hd4.out (by omega)).mono ?_
              rintro e w5 ⟨rfl, hk5⟩
              have Hd5 := Lib.hid (Hd4.out.keep hk5 (fun h => h) (fun _ _ h => h))
              go_wp2_with (fail)
              refine (drop_d _ _ _ _ _ Hd5.out (by omega)).mono ?_
              rintro e w6 ⟨rfl, ht⟩
              rw [Hdp.out] at ht
              have hkk6 := ht.keeps (hkk4.trans hk5) (Or.inr hB) (fun g hg => Or.inr (by have := (Hv4.out g hg).1; omega))
              have hsa6 := (hsa4.keepN hk5).keep (ht.keeps (F := fun g => g = w1.heap.size ∨ v4.ownBlock = some g) (Keeps.refl _ _) (Or.inl (Or.inl rfl)) (fun g hg => Or.inl (Or.inr hg)))
                (fun g hg _ hF => hF.elim (fun e => by have := hg.1; omega) (fun e => (Hv4.out g e).2 hg))
              obtain ⟨v6, hd6, _, _⟩ := ht
              have Hd6 := Lib.hid hd6
              clear hd6 Hd4 Hd5 hsa4
              go_wp2_with (fail)
              refine (list_any _ _ _ _ _ Hd6.out (by omega)).mono ?_
              rintro e wz ⟨sb, rfl, hob, hkz⟩
              have Hkz := Lib.hid ((hkk6).trans hkz)
              have hsaz := (hsa6).keepN hkz
              obtain ⟨pb, cb, rfl, hsb⟩ := hob.sl
              clear hob
              go_wp2_with (fail)
              go_loopw [19, 99] (fun _ i wr => ∃ k : Nat, k ≤ es.length ∧ i = .int .i64 k ∧ Keeps NoB wz wr) (fun _ i _ => es.length - (intOf i).toNat)
              case atStart => exact ⟨0, Nat.zero_le _, rfl, Keeps.refl _ _⟩
              case round =>
                obtain ⟨k2, hk2, rfl, hkp2⟩ := hrel
                have Hkp2 := Lib.hid hkp2
                clear hkp2
                by_cases hlt2 : k2 < es.length
                · obtain ⟨x, hx⟩ : ∃ x, es[k2]? = some x := ⟨_, List.getElem?_eq_getElem hlt2⟩
                  obtain ⟨g, off, rfl, _, _, c0, c1⟩ := (hsaz.keepN Hkp2.out).ent hx
                  obtain ⟨g', off', rfl, _, _, d0, d1⟩ := (hsb.keepN Hkp2.out).ent hx
                  have b1 : (0 : Int) ≤ k2 := by omega
                  have b2 : (k2 : Int) < es.length := by omega
                  clear hx
                  go_wp2
                  go_quiet (fail)
                  go_wp2
                  go_roundw
                  case rel => exact ⟨k2 + 1, by omega, by go_num, Hkp2.out.drewN _⟩
                  case measure => simp [intOf]; omega
                · go_wp2
                  go_ret
                  exact ⟨rfl, Hkz.out.trans Hkp2.out⟩
            · have Hpt : Hid (putTo es name node = es) := by show _ = _; unfold putTo; rw [if_neg hpe]
              have hpe' : (putErr es name == 0) = false := by simpa using hpe
              clear hh hpe
              go_wp2_with (fail)
              refine (get_any _ _ _ _ _ _ Hd2.out (by omega)).mono ?_
              rintro e w3 ⟨rfl, hk3⟩
              have Hd3 := Lib.hid (Hd2.out.keep hk3 (fun h => h) (fun _ _ h => h))
              have hsa3 := hsa.keepN hk3
              clear Hd2 hsa
              go_wp2_with (fail)
              refine (put_d _ _ _ _ _ _ Hd3.out (by omega)).mono ?_
              rintro e w4 ⟨rfl, ht⟩
              rw [Hpt.out] at ht
              have hkk4 := ht.keeps (hkk.trans hk3) (Or.inr hB) (fun g hg => Or.inr (by have := Hv.out g hg; omega))
              have hsa4 := hsa3.keep (ht.keeps (F := fun g => g = w1.heap.size ∨ v.ownBlock = some g) (Keeps.refl _ _) (Or.inl (Or.inl rfl)) (fun g hg => Or.inl (Or.inr hg)))
                (fun g hg _ hF => hF.elim (fun e => by have := hg.1; omega) (fun e => by have := Hol.out g e; omega))
              obtain ⟨v4, hd4, _, _⟩ := ht
              have Hd4 := Lib.hid hd4
              clear hd4 hsa3 Hd3
              obtain ⟨pa, ca, rfl, hsa4⟩ := hsa4
              go_wp2_with (fail)
              refine (list_any _ _ _ _ _ Hd4.out (by omega)).mono ?_
              rintro e wz ⟨sb, rfl, hob, hkz⟩
              have Hkz := Lib.hid ((hkk4).trans hkz)
              have hsaz := (hsa4).keepN hkz
              obtain ⟨pb, cb, rfl, hsb⟩ := hob.sl
              clear hob
              go_wp2_with (fail)
              go_loopw [19, 99] (fun _ i wr => ∃ k : Nat, k ≤ es.length ∧ i = .int .i64 k ∧ Keeps NoB wz wr) (fun _ i _ => es.length - (intOf i).toNat)
              case atStart => exact ⟨0, Nat.zero_le _, rfl, Keeps.refl _ _⟩
              case round =>
                obtain ⟨k2, hk2, rfl, hkp2⟩ := hrel
                have Hkp2 := Lib.hid hkp2
                clear hkp2
                by_cases hlt2 : k2 < es.length
                · obtain ⟨x, hx⟩ : ∃ x, es[k2]? = some x := ⟨_, List.getElem?_eq_getElem hlt2⟩
                  obtain ⟨g, off, rfl, _, _, c0, c1⟩ := (hsaz.keepN Hkp2.out).ent hx
                  obtain ⟨g', off', rfl, _, _, d0, d1⟩ := (hsb.keepN Hkp2.out).ent hx
                  have b1 : (0 : Int) ≤ k2 := by omega
                  have b2 : (k2 : Int) < es.length := by omega
                  clear hx
                  go_wp2
                  go_quiet (fail)
                  go_wp2
                  go_roundw
                  case rel => exact ⟨k2 + 1, by omega, by go_num, Hkp2.out.drewN _⟩
                  case measure => simp [intOf]; omega
                · go_wp2
                  go_ret
                  exact ⟨rfl, Hkz.out.trans Hkp2.out⟩

end Go.Proofs.Ytggpepjhlpeeiaa
