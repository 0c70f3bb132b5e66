/-
  Layer 16: contracts of package pat: Match, of patterns without sets.
-/
import Derived.Test.YtfomkkoecelakaaDoorD01
import Derived.BigQuiet
import Derived.Deep.RegionWith
import Derived.StillTailTactics
import Derived.Deep.CutRange

set_option linter.unusedSimpArgs false
set_option linter.unusedVariables false

set_option maxRecDepth 100000
set_option maxHeartbeats 8000000
namespace Go.Proofs.YtfomkkoecelakaaDoor
open Go Go.RowKit

def toPt (x : UInt8 × UInt8) : Pt := ⟨x.1, x.2, false, []⟩
def ptL (ps : List (UInt8 × UInt8)) : List Pt := ps.map toPt
theorem ptL_at {ps : List (UInt8 × UInt8)} {k : Nat} {x : UInt8 × UInt8} (h : ps[k]? = some x) : (ptL ps)[k]? = some (toPt x) := by unfold ptL; rw [List.getElem?_map, h]; rfl

/-- Amid Match. -/
structure OnMt (w wx : World) (ps : List (UInt8 × UInt8)) (s : ByteArray) (pa : Option Addr) (ca i k : Nat) (star : Int) (mark : Nat) : Prop where
  mi : MI (ptL ps) s.data.toList i k star mark
  box : Bk wx w.heap.size [.slice pa ps.length ca]
  keeps : Keeps NoB w wx

def MatA (w : World) (ps : List (UInt8 × UInt8)) (s : ByteArray) (pa : Option Addr) (ca : Nat) (a' : Act) (wx : World) : Prop :=
  ∃ (fz : Nat → Value) (i k : Nat) (star : Int) (mark : Nat), a' = { tmps := List.toArray (.agg #[.slice pa ps.length ca] :: .string s :: .pointer (some ⟨w.heap.size, 0, none⟩) :: fz 3 :: fz 4 :: .int .i64 (i : Int) :: .int .i64 (k : Int) :: .int .i64 star :: .int .i64 (mark : Int) :: fz 9 :: fz 10 :: fz 11 :: fz 12 :: fz 13 :: fz 14 :: fz 15 :: fz 16 :: fz 17 :: fz 18 :: fz 19 :: fz 20 :: fz 21 :: fz 22 :: fz 23 :: fz 24 :: fz 25 :: fz 26 :: fz 27 :: fz 28 :: fz 29 :: fz 30 :: fz 31 :: fz 32 :: fz 33 :: fz 34 :: fz 35 :: fz 36 :: fz 37 :: fz 38 :: fz 39 :: fz 40 :: fz 41 :: fz 42 :: fz 43 :: fz 44 :: fz 45 :: fz 46 :: fz 47 :: fz 48 :: fz 49 :: fz 50 :: fz 51 :: fz 52 :: fz 53 :: fz 54 :: fz 55 :: fz 56 :: fz 57 :: fz 58 :: fz 59 :: fz 60 :: fz 61 :: fz 62 :: fz 63 :: fz 64 :: fz 65 :: fz 66 :: fz 67 :: fz 68 :: fz 69 :: fz 70 :: fz 71 :: fz 72 :: fz 73 :: fz 74 :: fz 75 :: fz 76 :: fz 77 :: fz 78 :: fz 79 :: fz 80 :: []), defers := [] } ∧ OnMt w wx ps s pa ca i k star mark

theorem MatA.mk {w : World} {ps : List (UInt8 × UInt8)} {s : ByteArray} {pa : Option Addr} {ca : Nat} {a' : Act} {wx : World} {i k : Nat} {star : Int} {mark : Nat}
    (h : (fun fz : Nat → Value => a' = { tmps := List.toArray (.agg #[.slice pa ps.length ca] :: .string s :: .pointer (some ⟨w.heap.size, 0, none⟩) :: fz 3 :: fz 4 :: .int .i64 (i : Int) :: .int .i64 (k : Int) :: .int .i64 star :: .int .i64 (mark : Int) :: fz 9 :: fz 10 :: fz 11 :: fz 12 :: fz 13 :: fz 14 :: fz 15 :: fz 16 :: fz 17 :: fz 18 :: fz 19 :: fz 20 :: fz 21 :: fz 22 :: fz 23 :: fz 24 :: fz 25 :: fz 26 :: fz 27 :: fz 28 :: fz 29 :: fz 30 :: fz 31 :: fz 32 :: fz 33 :: fz 34 :: fz 35 :: fz 36 :: fz 37 :: fz 38 :: fz 39 :: fz 40 :: fz 41 :: fz 42 :: fz 43 :: fz 44 :: fz 45 :: fz 46 :: fz 47 :: fz 48 :: fz 49 :: fz 50 :: fz 51 :: fz 52 :: fz 53 :: fz 54 :: fz 55 :: fz 56 :: fz 57 :: fz 58 :: fz 59 :: fz 60 :: fz 61 :: fz 62 :: fz 63 :: fz 64 :: fz 65 :: fz 66 :: fz 67 :: fz 68 :: fz 69 :: fz 70 :: fz 71 :: fz 72 :: fz 73 :: fz 74 :: fz 75 :: fz 76 :: fz 77 :: fz 78 :: fz 79 :: fz 80 :: []), defers := [] }) (fun i => a'.tmps.toList.getD i undef))
    (J : OnMt w wx ps s pa ca i k star mark) : MatA w ps s pa ca a' wx := ⟨fun i => a'.tmps.toList.getD i undef, i, k, star, mark, h, J⟩

theorem match_any {S1 : Nat → Prop} {w : World} {pa : Option Addr} {ca : Nat} {ps : List (UInt8 × UInt8)} (ha : SlAt encP1 S1 w pa ca ps) (hk : ∀ x ∈ ps, x.1 = 98 ∨ x.1 = 63 ∨ x.1 = 42) (s : ByteArray) (hs : s.size ≤ 1000000000) (hn : ps.length ≤ 1000000000) :
    Calls Tryd.prog 37 #[.agg #[.slice pa ps.length ca], .string s] w fun e w' => ∃ r : Bool, e = .returned (.bool r) ∧ (r = true ↔ Mt (ptL ps) s.data.toList) ∧ Keeps NoB w w' := by
  have hcap := ha.cap
  have hmax := ha.max
  unfold maxLen at hmax
  have hl : s.data.toList.length = s.size := len_data s
  have HA := Lib.hid ha
  have HKd := Lib.hid hk
  have HG := Lib.hid (fun (i : Nat) (h : i < s.size) => (show s.data.toList[i]? = some s[i] by rw [List.getElem?_eq_getElem (by rw [hl]; exact h)]; rfl))
  have HL := Lib.hid (show (ptL ps).length = ps.length by unfold ptL; simp)
  clear ha hk
  go_enter Tryd.func37, Tryd.ntmps37
  go_wp2
  refine wp_scope_goto 0 (MatA w ps s pa ca) (fun a' _ => muM ps.length s.size (intOf (a'.tmps.getD 6 undef)).toNat (intOf (a'.tmps.getD 7 undef)) (intOf (a'.tmps.getD 8 undef)).toNat) rfl ?_ ?_
  · intro HJ
    have HJ' := Lib.hid HJ
    clear HJ
    have hbx := Bk.new (Keeps.refl NoB (w.alloc (.cells #[.slice pa ps.length ca] 91)))
    have J0 : OnMt w (w.alloc (.cells #[.slice pa ps.length ca] 91)) ps s pa ca 0 0 (-1) 0 := ⟨MI.start _ _, hbx, (Keeps.refl _ _).alloc _⟩
    clear hbx
    go_wp2
    go_step3
    go_step
    go_step
    refine HJ'.out _ _ ?_
    exact MatA.mk rfl J0
  · rintro a' wx ⟨fz, i, k, star, mark, rfl, hJ⟩
    have HJ := Lib.hid hJ
    have hile := hJ.mi.ile
    have hkle := hJ.mi.kle
    have hslo := hJ.mi.lo
    have hmle := hJ.mi.mle
    have hseg : 0 ≤ star → star < (k : Int) := fun h => by have := (hJ.mi.seg h).1; omega
    have c0 := hJ.box.cell 0 _ rfl
    rw [HL.out] at hkle
    rw [hl] at hile
    have HSeg := Lib.hid hseg
    clear hJ hseg
    have hmi : mark ≤ i := by omega
    have hstar : star < (k : Int) := by
      by_cases h0 : 0 ≤ star
      · exact HSeg.out h0
      · omega
    by_cases hkl : k < ps.length
    · have hkz : (k : Int) < (ps.length : Int) := by omega
      have hke : ((k : Int) == (ps.length : Int)) = false := by simp; omega
      obtain ⟨x, hx⟩ : ∃ x, ps[k]? = some x := ⟨_, List.getElem?_eq_getElem hkl⟩
      have hkd := HKd.out x (List.mem_of_getElem? hx)
      have HX := Lib.hid (ptL_at hx)
      obtain ⟨g, off, rfl, _, _, t0, t1, t2, t3⟩ := (HA.out.keepN HJ.out.keeps).p1 hx
      clear hx
      obtain ⟨kd, b⟩ := x
      simp only at hkd t0 t1
      by_cases h42 : kd = 42
      · subst h42
        have hb42 : (((42 : UInt8).toNat : Int) == 42) = true := rfl
        have HJ2 := Lib.hid (show OnMt w wx ps s (some ⟨g, off, none⟩) ca i (k + 1) (k : Int) i from ⟨HJ.out.mi.onStar HX.out rfl, HJ.out.box, HJ.out.keeps⟩)
        clear HJ HX HSeg HA
        go_wp2_with fail
        go_step3
        refine ⟨rfl, MatA.mk rfl HJ2.out, ?_⟩
        exact (show muM ps.length s.size (k + 1) (k : Int) i < muM ps.length s.size k star mark from mu_star hstar hkl hmi)
      have hb42 : ((kd.toNat : Int) == 42) = false := by rw [u8_dec kd 42 42 rfl]; simp [h42]
      by_cases hil : i < s.size
      · have hiz : (i : Int) < (s.size : Int) := by omega
        have hie : ((i : Int) == (s.size : Int)) = false := by simp; omega
        obtain ⟨c, hc⟩ : ∃ c, s[i] = c := ⟨_, rfl⟩
        have hci := HG.out i hil
        rw [hc] at hci
        have HF := Lib.hid (fun wy : World => fits_any kd b c (by rcases hkd with h | h | h; exact .inl h; exact .inr h; exact absurd h h42) wy)
        cases hf : fitsP ⟨kd, b, false, []⟩ c with
        | true =>
          rw [hf] at HF
          have HJ2 := Lib.hid (fun (wy : World) (hy : Keeps NoB wx wy) => (show OnMt w wy ps s (some ⟨g, off, none⟩) ca (i + 1) (k + 1) star mark from ⟨HJ.out.mi.onByte HX.out h42 hci hf, HJ.out.box.on hy, HJ.out.keeps.trans hy⟩))
          clear HJ HX HSeg HA hci hkd hf
          go_upto_region 5 with fail
          go_still_tail 20, (by kernel_rfl)
          change wpList _ _ _ _ _ wx.drew
          have HK4 := Lib.hid ((Keeps.refl NoB wx).drew)
          generalize wx.drew = w2 at *
          go_wp2_with (go_at_call 58; go_loud (refine (HF.out _).mono ?_); rintro e w4 ⟨rfl, hk4⟩)
          go_step3
          refine ⟨rfl, MatA.mk rfl (HJ2.out w4 (HK4.out.trans hk4)), ?_⟩
          exact (show muM ps.length s.size (k + 1) star mark < muM ps.length s.size k star mark from mu_byte hkl)
        | false =>
          rw [hf] at HF
          have hst : ¬ MtAt (ptL ps) s.data.toList k i := HJ.out.mi.stuck (fun p hp => by rw [HX.out] at hp; cases hp; exact h42) (fun p c' hp hc' => by rw [HX.out] at hp; rw [hci] at hc'; cases hp; cases hc'; exact hf) (fun h => by have := h.2; rw [HL.out] at this; omega)
          have HSt := Lib.hid hst
          clear HX HSeg HA hci hkd hf hst
          by_cases h0 : 0 ≤ star
          · obtain ⟨st, rfl⟩ : ∃ st : Nat, star = st := ⟨star.toNat, by omega⟩
            by_cases hm : mark < s.size
            · have hmz : (mark : Int) < (s.size : Int) := by omega
              have HJ2 := Lib.hid (fun (wy : World) (hy : Keeps NoB wx wy) => (show OnMt w wy ps s (some ⟨g, off, none⟩) ca (mark + 1) (st + 1) (st : Int) (mark + 1) from ⟨HJ.out.mi.back HSt.out h0 (by omega), HJ.out.box.on hy, HJ.out.keeps.trans hy⟩))
              go_upto_region 5 with fail
              go_still_tail 20, (by kernel_rfl)
              change wpList _ _ _ _ _ wx.drew
              have HK4 := Lib.hid ((Keeps.refl NoB wx).drew)
              generalize wx.drew = w2 at *
              go_wp2_with (go_at_call 58; go_loud (refine (HF.out _).mono ?_); rintro e w4 ⟨rfl, hk4⟩)
              go_step3
              refine ⟨rfl, MatA.mk rfl (HJ2.out _ (HK4.out.trans hk4)), ?_⟩
              exact (show muM ps.length s.size (st + 1) (st : Int) (mark + 1) < muM ps.length s.size k (st : Int) mark from mu_back h0 hm)
            · have hmz : ¬ (mark : Int) < (s.size : Int) := by omega
              skip
              exact absurd hm (by omega)
              
          · have HNo := Lib.hid (HJ.out.mi.fail HSt.out (fun h => h0 h.1))
            go_upto_region 5 with fail
            go_still_tail 20, (by kernel_rfl)
            change wpList _ _ _ _ _ wx.drew
            have HK4 := Lib.hid ((Keeps.refl NoB wx).drew)
            generalize wx.drew = w2 at *
            go_wp2_with (go_at_call 58; go_loud (refine (HF.out _).mono ?_); rintro e w4 ⟨rfl, hk4⟩)
            simp only [Exit.jump]
            go_ret
            exact ⟨false, rfl, ⟨fun h => (by cases h), fun h => absurd h (HNo.out)⟩, HJ.out.keeps.trans (HK4.out.trans hk4)⟩
      · have hiz : ¬ (i : Int) < (s.size : Int) := by omega
        have hie : ((i : Int) == (s.size : Int)) = true := by simp; omega
        have hst : ¬ MtAt (ptL ps) s.data.toList k i := HJ.out.mi.stuck (fun p hp => by rw [HX.out] at hp; cases hp; exact h42) (fun p c' hp hc' => by have := (List.getElem?_eq_some_iff.1 hc').1; omega) (fun h => by have := h.2; rw [HL.out] at this; omega)
        have HSt := Lib.hid hst
        clear HX HSeg HA hkd hst
        by_cases h0 : 0 ≤ star
        · obtain ⟨st, rfl⟩ : ∃ st : Nat, star = st := ⟨star.toNat, by omega⟩
          by_cases hm : mark < s.size
          · have hmz : (mark : Int) < (s.size : Int) := by omega
            have HJ2 := Lib.hid (fun (wy : World) (hy : Keeps NoB wx wy) => (show OnMt w wy ps s (some ⟨g, off, none⟩) ca (mark + 1) (st + 1) (st : Int) (mark + 1) from ⟨HJ.out.mi.back HSt.out h0 (by omega), HJ.out.box.on hy, HJ.out.keeps.trans hy⟩))
            go_upto_region 5 with fail
            go_quiet (fail)
            go_wp2_with fail
            go_step3
            refine ⟨rfl, MatA.mk rfl (HJ2.out _ ((Keeps.refl NoB wx).drewN _)), ?_⟩
            exact (show muM ps.length s.size (st + 1) (st : Int) (mark + 1) < muM ps.length s.size k (st : Int) mark from mu_back h0 hm)
          · have hmz : ¬ (mark : Int) < (s.size : Int) := by omega
            have HNo := Lib.hid (HJ.out.mi.fail HSt.out (fun h => hm (by have := h.2; omega)))
            go_upto_region 5 with fail
            go_quiet (fail)
            go_wp2_with fail
            simp only [Exit.jump]
            go_ret
            exact ⟨false, rfl, ⟨fun h => (by cases h), fun h => absurd h (HNo.out)⟩, HJ.out.keeps.trans ((Keeps.refl NoB wx).drewN _)⟩
        · have HNo := Lib.hid (HJ.out.mi.fail HSt.out (fun h => h0 h.1))
          go_upto_region 5 with fail
          go_quiet (fail)
          go_wp2_with fail
          simp only [Exit.jump]
          go_ret
          exact ⟨false, rfl, ⟨fun h => (by cases h), fun h => absurd h (HNo.out)⟩, HJ.out.keeps.trans ((Keeps.refl NoB wx).drewN _)⟩
    · have hkz : ¬ (k : Int) < (ps.length : Int) := by omega
      have hke : ((k : Int) == (ps.length : Int)) = true := by simp; omega
      have hnone : (ptL ps)[k]? = none := List.getElem?_eq_none (by rw [HL.out]; omega)
      by_cases hil : i < s.size
      · have hiz : (i : Int) < (s.size : Int) := by omega
        have hie : ((i : Int) == (s.size : Int)) = false := by simp; omega
        have hst : ¬ MtAt (ptL ps) s.data.toList k i := HJ.out.mi.stuck (fun p hp => by rw [hnone] at hp; cases hp) (fun p c' hp hc' => by rw [hnone] at hp; cases hp) (fun h => by omega)
        have HSt := Lib.hid hst
        clear HSeg HA hst hnone
        by_cases h0 : 0 ≤ star
        · obtain ⟨st, rfl⟩ : ∃ st : Nat, star = st := ⟨star.toNat, by omega⟩
          by_cases hm : mark < s.size
          · have hmz : (mark : Int) < (s.size : Int) := by omega
            have HJ2 := Lib.hid (fun (wy : World) (hy : Keeps NoB wx wy) => (show OnMt w wy ps s pa ca (mark + 1) (st + 1) (st : Int) (mark + 1) from ⟨HJ.out.mi.back HSt.out h0 (by omega), HJ.out.box.on hy, HJ.out.keeps.trans hy⟩))
            go_upto_region 5 with fail
            go_quiet (fail)
            go_wp2_with fail
            go_step3
            refine ⟨rfl, MatA.mk rfl (HJ2.out _ ((Keeps.refl NoB wx).drewN _)), ?_⟩
            exact (show muM ps.length s.size (st + 1) (st : Int) (mark + 1) < muM ps.length s.size k (st : Int) mark from mu_back h0 hm)
          · have hmz : ¬ (mark : Int) < (s.size : Int) := by omega
            skip
            exact absurd hm (by omega)
            
        · have HNo := Lib.hid (HJ.out.mi.fail HSt.out (fun h => h0 h.1))
          go_upto_region 5 with fail
          go_quiet (fail)
          go_wp2_with fail
          simp only [Exit.jump]
          go_ret
          exact ⟨false, rfl, ⟨fun h => (by cases h), fun h => absurd h (HNo.out)⟩, HJ.out.keeps.trans ((Keeps.refl NoB wx).drewN _)⟩
      · have hiz : ¬ (i : Int) < (s.size : Int) := by omega
        have hie : ((i : Int) == (s.size : Int)) = true := by simp; omega
        have HD := Lib.hid (HJ.out.mi.done (by omega) (by rw [HL.out]; omega))
        have HK := Lib.hid HJ.out.keeps
        clear HSeg HA hnone HJ
        go_upto_region 5 with fail
        go_quiet (fail)
        replace c0 : (wx.drewN nq).cell? ⟨w.heap.size, 0, none⟩ = some (.slice pa ps.length ca) := c0
        go_wp2_with fail
        simp only [Exit.jump]
        go_ret
        exact ⟨true, rfl, ⟨fun _ => HD.out, fun _ => rfl⟩, HK.out.drewN _⟩

end Go.Proofs.YtfomkkoecelakaaDoor
