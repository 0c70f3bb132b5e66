/-
  The walk of DirPlays.
-/
import Derived.Test.YtggpepjhlpeeiaaLaw3d
namespace Go.Proofs.Ytggpepjhlpeeiaa
open Go.RowKit

theorem opTo_len (es : List Ent) (o : OpD) : (opTo es o).length ≤ es.length + 1 := by
  unfold opTo
  split; · exact putTo_len _ _ _
  split; · simp [entSet]
  split; · exact Nat.le_trans (List.length_filter_le _ _) (Nat.le_succ _)
  · omega

/-- The entries behind the first k calls. -/
def playD (ops : List OpD) (k : Nat) : List Ent := (ops.take k).foldl opTo []

theorem playD_succ (ops : List OpD) (k : Nat) (o : OpD) (h : ops[k]? = some o) : playD ops (k + 1) = opTo (playD ops k) o := by
  unfold playD
  rw [List.take_add_one, h]
  simp

theorem playD_len (ops : List OpD) (k : Nat) : (playD ops k).length ≤ k := by
  induction k with
  | zero => simp [playD]
  | succ k ih =>
    by_cases hk : k < ops.length
    · rw [playD_succ ops k _ (List.getElem?_eq_getElem hk)]
      have := opTo_len (playD ops k) ops[k]
      omega
    · have : playD ops (k + 1) = playD ops k := by
        unfold playD; rw [List.take_of_length_le (by omega), List.take_of_length_le (by omega)]
      rw [this]; omega

set_option maxHeartbeats 4000000 in
set_option maxRecDepth 100000 in
theorem plays_any (W : World) (p : Option Addr) (c : Nat) (ops : List OpD) (name head : ByteArray) (h : SlAt encOp (fun g => g < W.heap.size) W p c ops) (hmo : ∀ o ∈ ops, o.2.1.size ≤ maxLen) (hm1 : name.size ≤ maxLen) (hm2 : head.size ≤ maxLen) :
    Calls Try.prog 5 #[.slice p ops.length c, .string name, .string head] W fun e w' => SameEnd W w' e := by
  have hcap := h.cap
  have hmax := h.max
  have Hmo := Lib.hid hmo
  clear hmo
  unfold maxLen at hmax hm1 hm2
  by_cases h1 : 100 < ops.length
  · go_enter Try.func5, Try.ntmps5
    go_wp2_with (go_at_call 6; refine (anchor_any _).mono ?_; rintro e w1 ⟨rfl, hk1⟩)
    go_ret
    exact ⟨rfl, hk1⟩
  · by_cases h2 : 500 < name.size
    · go_enter Try.func5, Try.ntmps5
      go_wp2_with (go_at_call 6; refine (anchor_any _).mono ?_; rintro e w1 ⟨rfl, hk1⟩)
      go_ret
      exact ⟨rfl, hk1⟩
    · by_cases h3 : 500 < head.size
      · go_enter Try.func5, Try.ntmps5
        go_wp2_with (go_at_call 6; refine (anchor_any _).mono ?_; rintro e w1 ⟨rfl, hk1⟩)
        go_ret
        exact ⟨rfl, hk1⟩
      · go_enter Try.func5, Try.ntmps5
        go_wp2_with (go_at_call 6; refine (anchor_any _).mono ?_; rintro e w1 ⟨rfl, hk1⟩)
        have hB : W.heap.size ≤ w1.heap.size := hk1.size
        have Hst : Hid (∃ v, IsD (w1.alloc (.cells #[.slice none 0 0] 26)) ⟨w1.heap.size, 0, none⟩ v (playD ops 0) ∧ Sl encEnt (Off ⟨w1.heap.size, 0, none⟩ v) (w1.alloc (.cells #[.slice none 0 0] 26)) (.slice none 0 0) (playD ops 0) ∧
            (∀ g, v.ownBlock = some g → w1.heap.size < g) ∧ Keeps NoB W (w1.alloc (.cells #[.slice none 0 0] 26))) :=
          ⟨_, IsD.new w1 _, Sl.nil _ _ _, (fun g hg => by cases hg), hk1.alloc _⟩
        clear hk1
        go_loopw [8, 10, 11, 35] (fun s _ _ i wr => ∃ (k : Nat) (v : Value), k ≤ ops.length ∧ i = .int .i64 k ∧ IsD wr ⟨w1.heap.size, 0, none⟩ v (playD ops k) ∧ Sl encEnt (Off ⟨w1.heap.size, 0, none⟩ v) wr s (playD ops k) ∧
            (∀ g, v.ownBlock = some g → w1.heap.size < g) ∧ Keeps NoB W wr) (fun _ _ _ i _ => ops.length - (intOf i).toNat)
        case atStart => obtain ⟨v, a, b, d, e⟩ := Hst.out; exact ⟨0, v, Nat.zero_le _, rfl, a, b, d, e⟩
        case round =>
          obtain ⟨k, v, hk, rfl, hd, hs, hv, hkp⟩ := hrel
          have Hd := Lib.hid hd
          have Hv := Lib.hid hv
          have Hkp := Lib.hid hkp
          have hlen := playD_len ops k
          obtain ⟨ps, cs, rfl, hs⟩ := hs
          clear hd hv hkp Hst
          by_cases hlt : k < ops.length
          · obtain ⟨o, hx⟩ : ∃ o, ops[k]? = some o := ⟨_, List.getElem?_eq_getElem hlt⟩
            obtain ⟨g, off, rfl, hS, hg, c0, c1, c2⟩ := (h.keepN Hkp.out).op hx
            have Hx := Lib.hid hx
            have ho := Hmo.out o (List.mem_of_getElem? hx)
            have ho' := ho
            unfold maxLen at ho'
            clear hx
            by_cases hsz : 500 < o.2.1.size
            · go_wp2
              go_ret
              exact ⟨rfl, Hkp.out.alloc _⟩
            · have hal : Keeps NoB wr (wr.alloc (.cells #[.int .i64 o.1, .string o.2.1, .int .i64 o.2.2] 41)) := (Keeps.refl _ _).alloc _
              have hdo := do_any _ ⟨w1.heap.size, 0, none⟩ v (playD ops k) ps cs o (Hd.out.keep hal (fun h => h) (fun _ _ h => h)) (hs.keepN hal) (by omega) ho
              have Hdo := Lib.hid hdo
              clear hdo
              go_wp2_with (fail)
              refine Hdo.out.mono ?_
              rintro e w2 ⟨s', rfl, v', hd', hs', hkk, hf'⟩
              rw [← playD_succ ops k o Hx.out] at hd' hs'
              have hdl := Hd.out.lt
              have Hd' := Lib.hid hd'
              have Hs' := Lib.hid hs'
              have Hkp' : Hid (Keeps NoB W w2) := (Hkp.out.alloc _).step hkk (fun g hg => Or.inr (hg.elim (fun e => by rw [e]; exact hB) (fun e => by have := Hv.out g e; omega)))
              have Hv' : Hid (∀ g, v'.ownBlock = some g → w1.heap.size < g) := fun g hg => (hf' g hg).elim (Hv.out g) (fun h => by simp at h hdl; omega)
              clear hd' hs' hkk hf' hal c0 c1 c2 Hd hs
              go_wp2_with (fail)
              go_roundw
              case rel => exact ⟨k + 1, v', by omega, by go_num, Hd'.out, Hs'.out, Hv'.out, Hkp'.out⟩
              case measure => simp [intOf]; omega
          · obtain rfl : k = ops.length := by omega
            generalize playD ops ops.length = es at *
            have Hnm := Lib.hid Hd.out.names
            go_wp2_with (fail)
            go_loopw [12, 14, 54] (fun s _ i wx => ∃ k : Nat, k ≤ es.length ∧ i = .int .i64 k ∧ s = .int .i64 (entSize (es.take k)) ∧ Keeps NoB wr wx) (fun _ _ i _ => es.length - (intOf i).toNat)
            case atStart => exact ⟨0, Nat.zero_le _, rfl, by simp [entSize], Keeps.refl _ _⟩
            case round =>
              rename_i wx
              obtain ⟨k, hk, rfl, rfl, hkp⟩ := hrel
              have Hkp2 := Lib.hid hkp
              clear hkp
              by_cases hlt : k < es.length
              · obtain ⟨x, hx⟩ : ∃ x, es[k]? = some x := ⟨_, List.getElem?_eq_getElem hlt⟩
                obtain ⟨g, off, rfl, hS, hg, c0, c1⟩ := (hs.keepN Hkp2.out).ent hx
                have hx1 : x.1.size ≤ 255 := by have := Hnm.out x (List.mem_of_getElem? hx); simp [okName] at this; omega
                have hle := entSize_le (es.take k) (fun e he => Hnm.out e (List.mem_of_mem_take he))
                rw [List.length_take] at hle
                have HS := Lib.hid (entSize_take es k x hx)
                clear hx
                go_wp2
                go_roundw
                case rel => exact ⟨k + 1, by omega, by go_num, by rw [HS.out]; go_num, (Hkp2.out.alloc _)⟩
                case measure => simp [intOf]; omega
              · rw [List.take_of_length_le (by omega)]
                have Hd2 := Lib.hid (Hd.out.keep Hkp2.out (fun h => h) (fun _ _ h => h))
                have hs2 := hs.keepN Hkp2.out
                have Hk2 := Lib.hid (Hkp.out.trans Hkp2.out)
                have hri := Hd.out.rising
                have Hri := Lib.hid hri
                clear Hd hs Hkp Hkp2 hri
                go_wp2_with (fail)
                refine (get_any _ _ _ _ _ _ Hd2.out (by omega)).mono ?_
                rintro e w3 ⟨rfl, hk3⟩
                have Hd3 := Lib.hid (Hd2.out.keep hk3 (fun h => h) (fun _ _ h => h))
                have hs3 := hs2.keepN hk3
                have Hk3 := Lib.hid (Hk2.out.trans hk3)
                have hget := entGet_isSome es name
                have hhas := lb_has Hri.out name
                have hga := get_at Hri.out name
                clear Hd2 hs2 Hk2 hk3
                have hfi := r3find_any _ w3 ps cs es name hs3 Hri.out
                have Hfi := Lib.hid hfi
                clear hfi
                cases hh : entHas es name with
                | true =>
                  rw [hh] at hget hhas
                  cases hl : es[lb es name]? with
                  | none => rw [hl] at hhas; cases hhas
                  | some x =>
                    rw [hl] at hga hhas
                    have hx1 : x.1 = name := by simpa using hhas.symm
                    simp only [hx1, if_true] at hga
                    have hgv : (entGet es name).getD 0 = x.2 := by rw [hga]; rfl
                    have hidx : entIdx es name = lb es name := by rw [entIdx, hh]; rfl
                    have hll := (List.getElem?_eq_some_iff.1 hl).1
                    obtain ⟨g, off, rfl, _, _, c0, c1⟩ := hs3.ent hl
                    clear hga hhas hl hh
                    go_wp2_with (go_at_call 13; refine Hfi.out.mono ?_; rintro e w4 ⟨rfl, rfl⟩)
                    refine (len_any _ _ _ _ _ Hd3.out).mono ?_
                    rintro e w5 ⟨rfl, rfl⟩
                    go_wp2_with (fail)
                    refine (size_any _ _ _ _ _ Hd3.out (by omega)).mono ?_
                    rintro e w5 ⟨rfl, hk5⟩
                    have Hd5 := Lib.hid (Hd3.out.keep hk5 (fun h => h) (fun _ _ h => h))
                    have hs5 := hs3.keepN hk5
                    go_wp2_with (fail)
                    refine (list_any _ _ _ _ _ Hd5.out (by omega)).mono ?_
                    rintro e w6 ⟨sl, rfl, ho6, hk6⟩
                    have Hd6 := Lib.hid (Hd5.out.keep hk6 (fun h => h) (fun _ _ h => h))
                    have hs6 := hs5.keepN hk6
                    obtain ⟨pl, cl, rfl, hl6⟩ := ho6.sl
                    go_wp2_with (fail)
                    refine (same_any _ _ _ _ _ _ _ _ hl6 hs6).mono ?_
                    rintro e w7 ⟨rfl, hk7⟩
                    have Hd7 := Lib.hid (Hd6.out.keep hk7 (fun h => h) (fun _ _ h => h))
                    have hs7 := hs6.keepN hk7
                    go_wp2_with (fail)
                    refine (from_any _ _ _ _ _ head Hd7.out (by omega)).mono ?_
                    rintro e w8 ⟨sf, rfl, ho8, hk8⟩
                    have hs8 := hs7.keepN hk8
                    obtain ⟨pf, cf, rfl, hf8⟩ := ho8.sl
                    go_wp2_with (fail)
                    refine (r3from_any (fun _ => True) _ _ _ _ head (Sl.at' ((Sl.of hs8).mono (fun _ _ _ => trivial))) (by omega) (fun _ _ => trivial)).mono ?_
                    rintro e w9 ⟨sg, rfl, hg9, hk9⟩
                    obtain ⟨pg, cg, rfl, hg9⟩ := hg9
                    go_wp2_with (fail)
                    refine (same_any _ _ _ _ _ _ _ _ (hf8.keepN hk9) hg9).mono ?_
                    rintro e w10 ⟨rfl, hk10⟩
                    go_wp2_with (fail)
                    go_ret
                    exact ⟨rfl, (((((Hk3.out.trans hk5).trans hk6).trans hk7).trans hk8).trans hk9).trans hk10⟩
                | false =>
                  rw [hh] at hget
                  have hgv : (entGet es name).getD 0 = 0 := by rw [entGet_none hh]; rfl
                  have hidx : entIdx es name = -1 := by rw [entIdx, hh]; rfl
                  clear hga hhas hh
                  go_wp2_with (go_at_call 13; refine Hfi.out.mono ?_; rintro e w4 ⟨rfl, rfl⟩)
                  refine (len_any _ _ _ _ _ Hd3.out).mono ?_
                  rintro e w5 ⟨rfl, rfl⟩
                  go_wp2_with (fail)
                  refine (size_any _ _ _ _ _ Hd3.out (by omega)).mono ?_
                  rintro e w5 ⟨rfl, hk5⟩
                  have Hd5 := Lib.hid (Hd3.out.keep hk5 (fun h => h) (fun _ _ h => h))
                  have hs5 := hs3.keepN hk5
                  go_wp2_with (fail)
                  refine (list_any _ _ _ _ _ Hd5.out (by omega)).mono ?_
                  rintro e w6 ⟨sl, rfl, ho6, hk6⟩
                  have Hd6 := Lib.hid (Hd5.out.keep hk6 (fun h => h) (fun _ _ h => h))
                  have hs6 := hs5.keepN hk6
                  obtain ⟨pl, cl, rfl, hl6⟩ := ho6.sl
                  go_wp2_with (fail)
                  refine (same_any _ _ _ _ _ _ _ _ hl6 hs6).mono ?_
                  rintro e w7 ⟨rfl, hk7⟩
                  have Hd7 := Lib.hid (Hd6.out.keep hk7 (fun h => h) (fun _ _ h => h))
                  have hs7 := hs6.keepN hk7
                  go_wp2_with (fail)
                  refine (from_any _ _ _ _ _ head Hd7.out (by omega)).mono ?_
                  rintro e w8 ⟨sf, rfl, ho8, hk8⟩
                  have hs8 := hs7.keepN hk8
                  obtain ⟨pf, cf, rfl, hf8⟩ := ho8.sl
                  go_wp2_with (fail)
                  refine (r3from_any (fun _ => True) _ _ _ _ head (Sl.at' ((Sl.of hs8).mono (fun _ _ _ => trivial))) (by omega) (fun _ _ => trivial)).mono ?_
                  rintro e w9 ⟨sg, rfl, hg9, hk9⟩
                  obtain ⟨pg, cg, rfl, hg9⟩ := hg9
                  go_wp2_with (fail)
                  refine (same_any _ _ _ _ _ _ _ _ (hf8.keepN hk9) hg9).mono ?_
                  rintro e w10 ⟨rfl, hk10⟩
                  go_wp2_with (fail)
                  go_ret
                  exact ⟨rfl, (((((Hk3.out.trans hk5).trans hk6).trans hk7).trans hk8).trans hk9).trans hk10⟩
end Go.Proofs.Ytggpepjhlpeeiaa
