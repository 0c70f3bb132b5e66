/-
  Layer 21's statements: the walk of GlobAll.
-/
import Derived.Test.YtfomkkoecelakaaDoorD07
import Derived.BigQuiet

set_option linter.unusedSimpArgs false
set_option linter.unusedVariables false

set_option maxRecDepth 100000
set_option maxHeartbeats 8000000
namespace Go.Proofs.YtfomkkoecelakaaDoor
open Go Go.RowKit

/-- The names that are still to come, of the two kinds. -/
def plainN (es : List Ent) : List ByteArray := (es.filter fun e => !hasDot e.1).map (·.1)
def dotN (es : List Ent) : List ByteArray := (es.filter fun e => hasDot e.1).map (·.1)
theorem plainN_cons (e : Ent) (es : List Ent) : plainN (e :: es) = if hasDot e.1 = true then plainN es else e.1 :: plainN es := by
  unfold plainN
  rw [List.filter_cons]
  cases hasDot e.1 <;> simp
theorem dotN_cons (e : Ent) (es : List Ent) : dotN (e :: es) = if hasDot e.1 = true then e.1 :: dotN es else dotN es := by
  unfold dotN
  rw [List.filter_cons]
  cases hasDot e.1 <;> simp
theorem hasDot_eq {s : ByteArray} (h : 0 < s.size) : ((s[0].toNat : Int) == 46) = hasDot s := by
  have := hasDot_at h
  rw [bne] at this
  cases h1 : ((s[0].toNat : Int) == 46) <;> rw [h1] at this <;> simpa using this

/-- Between the names. -/
structure GA (w4 wr : World) (es : List Ent) (j : Nat) (pa : Option Addr) (ca : Nat) (la : List ByteArray) (pb : Option Addr) (cb : Nat) (lb : List ByteArray) : Prop where
  le : j ≤ es.length
  a : SlAt encStr (fun _ => True) wr pa ca la
  b : SlAt encStr (fun _ => True) wr pb cb lb
  ea : la = plainN (es.drop j)
  eb : lb = dotN (es.drop j)
  keeps : Keeps NoB w4 wr

theorem all_any {S : Nat → Prop} {W : World} {pl : Option Addr} {cl : Nat} {ns : List ByteArray} (h : SlAt encStr S W pl cl ns) :
    Calls Tryd.prog 3 #[.slice pl ns.length cl] W fun e w' => e = .returned (.bool true) ∧ Keeps NoB W w' := by
  have hcap := h.cap
  have hmax := h.max
  unfold maxLen at hmax
  have HA := Lib.hid anchor21_any
  by_cases z : 20 < ns.length
  · have z' : (20 : Int) < (ns.length : Int) := by omega
    go_enter Tryd.func3, Tryd.ntmps3
    go_wp2_with (go_at_call 5; go_loud (refine (HA.out _).mono ?_); rintro e w1 ⟨rfl, hk1⟩)
    go_ret
    exact ⟨rfl, hk1⟩
  have z' : ¬ (20 : Int) < (ns.length : Int) := by omega
  have HB := Lib.hid (fun wx : World => begin_any wx 65536 (-1) (by decide) (by decide))
  have HH := Lib.hid h
  clear h
  go_enter Tryd.func3, Tryd.ntmps3
  go_upto_region 6 with (first | (go_at_call 5; go_loud (refine (HA.out _).mono ?_); rintro e w1 ⟨rfl, hk1⟩) | (go_at_call 6; go_loud (refine (HB.out _).mono ?_); rintro e w2 ⟨F, a, rfl, FS, k2⟩))
  have HJ0 := Lib.hid (GJ.new (FSx.new (FS.less (fun g hg => Nat.lt_of_lt_of_le hg hk1.size)) (hk1.trans k2)))
  clear HA HB FS hk1 k2
  go_upto_region 9 with fail
  go_loopw [30] (fun i wr => ∃ (k : Nat) (d : Nds), k ≤ ns.length ∧ i = .int .i64 k ∧ GJ W wr F a k d) (fun i _ => ns.length + 1 - (intOf i).toNat)
  case atStart => exact ⟨0, newD, Nat.zero_le _, rfl, HJ0.out⟩
  case round =>
    obtain ⟨k, d, hk, rfl, hJ⟩ := hrel
    have HJ := Lib.hid hJ
    have HU := Lib.hid user21_any
    clear hJ HJ0
    by_cases hlt : k < ns.length
    · have hlz : (k : Int) < (ns.length : Int) := by omega
      obtain ⟨x, hx⟩ : ∃ x, ns[k]? = some x := ⟨_, List.getElem?_eq_getElem hlt⟩
      obtain ⟨gb, off, rfl, _, _, t0⟩ := (HH.out.keepN HJ.out.fx.keeps).str hx
      have hk20 : k ≤ 20 := by omega
      clear hx
      by_cases z5 : 300 < x.size
      · have z5' : (300 : Int) < (x.size : Int) := by omega
        have HK := Lib.hid HJ.out.fx.keeps
        clear HJ
        go_wp2_with fail
        go_ret
        exact ⟨rfl, HK.out⟩
      have z5' : ¬ (300 : Int) < (x.size : Int) := by omega
      have hcat : (9223372036854775807 < (⟨#[46, 47]⟩ : ByteArray).size + x.size) = False := by simp; show (⟨#[46, 47]⟩ : ByteArray).size + x.size ≤ _; rw [show (⟨#[46, 47]⟩ : ByteArray).size = 2 from rfl]; omega
      have hcat2 : (9223372036854775807 < 2 + x.size) = False := by simp; omega
      have HM := Lib.hid (fun wx (kx : Keeps NoB wr wx) => (HJ.out.on kx).mkdir hk20 ((⟨#[46, 47]⟩ : ByteArray) ++ x) (by rw [ByteArray.size_append, show (⟨#[46, 47]⟩ : ByteArray).size = 2 from rfl]; omega))
      go_wp2_with (first | (go_at_call 8; go_loud (refine (HU.out _).mono ?_); rintro e w4 ⟨rfl, hk4⟩) | (go_at_call 7; go_loud (refine (HM.out _ hk4).mono ?_); rintro e w5 ⟨v5, rfl, d5, hJ5⟩))
      go_roundw
      case rel => exact ⟨k + 1, d5, by omega, by go_num, hJ5⟩
      case measure => simp [intOf]; omega
    · obtain rfl : k = ns.length := by omega
      have hlz : ¬ (ns.length : Int) < (ns.length : Int) := by omega
      have hk4096 : ns.length ≤ 4096 := by omega
      have HL : Hid (∀ wx, Keeps NoB wr wx → Calls Tryd.prog 9 #[.pointer (some ⟨F, 0, none⟩), .agg #[.int .i64 1, .int .i64 0], .string ⟨#[46]⟩] wx fun e w' =>
          ∃ v, e = .returned (.tuple #[v, .int .i64 0]) ∧ Own encEnt 41 (fun g => wx.heap.size ≤ g) w' v (nd d 1).ents ∧ Keeps NoB wx w') := by
        refine Lib.hid fun wx kx => ?_
        have h1 := (HJ.out.fx.on kx).asks fun N h => fsList_any h 1 0 ⟨#[46]⟩ (by decide) (nd_ents_len HJ.out.fx.small)
        have e1 := HJ.out.root.list HJ.out.fx.inv
        have e2 := HJ.out.root.thr HJ.out.fx.inv
        rw [e1, if_pos rfl, e2] at h1
        exact h1
      have HS1 := Lib.hid (fun wu (k : Keeps NoB wr wu) => star_any (HJ.out.fx.on k) HJ.out.root hk4096)
      have HS2 := Lib.hid (fun wu (k : Keeps NoB wr wu) => dots_any (HJ.out.fx.on k) HJ.out.root hk4096)
      have HNm := Lib.hid (HJ.out.fx.inv.node 1).names
      have hel := nd_ents_len HJ.out.fx.small 1
      have HKr := Lib.hid HJ.out.fx.keeps
      have HU1 := Lib.hid (HU.out wr)
      have HU2 := Lib.hid HU.out
      have HU3 := Lib.hid HU.out
      generalize (nd d 1).ents = es at *
      rw [show ((es.filter fun e => !hasDot e.1).map (·.1)) = plainN es from rfl] at HS1
      rw [show ((es.filter fun e => hasDot e.1).map (·.1)) = dotN es from rfl] at HS2
      clear HJ HU
      go_upto_region 17 with (first
        | (go_at_call 8; have HX := HU1; clear HU1; go_loud (refine HX.out.mono ?_); rintro e w4 ⟨rfl, hk4⟩)
        | (go_at_call 9; have HX := HL; clear HL; go_loud (refine (HX.out w4 hk4).mono ?_); rintro e w5 ⟨v5, rfl, ho5, hk5⟩)
        | (go_at_call 8; have HX := HU2; clear HU2; go_loud (refine (HX.out w5).mono ?_); rintro e w6 ⟨rfl, hk6⟩)
        | (go_at_call 10; have HX := HS1; clear HS1; go_loud (refine (HX.out w6 (hk4.trans (hk5.trans hk6))).mono ?_); rintro e w7 ⟨v7, rfl, ho7, hk7⟩)
        | (go_at_call 8; have HX := HU3; clear HU3; go_loud (refine (HX.out w7).mono ?_); rintro e w8 ⟨rfl, hk8⟩)
        | (go_at_call 10; have HX := HS2; clear HS2; go_loud (refine (HX.out w8 (hk4.trans (hk5.trans (hk6.trans (hk7.trans hk8))))).mono ?_); rintro e w9 ⟨v9, rfl, ho9, hk9⟩))
      obtain ⟨p5, c5, rfl, hs5⟩ := (ho5.keep (hk6.trans (hk7.trans (hk8.trans hk9))) (fun _ _ h => h)).sl
      obtain ⟨p7, c7, rfl, hs7⟩ := (ho7.keep (hk8.trans hk9) (fun _ _ h => h)).sl
      obtain ⟨p9, c9, rfl, hs9⟩ := ho9.sl
      have HE := Lib.hid hs5
      have HG0 : Hid (GA w9 w9 es 0 p7 c7 (plainN es) p9 c9 (dotN es)) :=
        ⟨Nat.zero_le _, hs7.keepS (Keeps.refl NoB w9) (fun _ _ _ h => h) (fun _ _ _ => trivial), hs9.keepS (Keeps.refl NoB w9) (fun _ _ _ h => h) (fun _ _ _ => trivial), by rw [List.drop_zero], by rw [List.drop_zero], Keeps.refl _ _⟩
      have HK9 := Lib.hid (HKr.out.trans (hk4.trans (hk5.trans (hk6.trans (hk7.trans (hk8.trans hk9))))))
      have hec := hs5.cap
      have hem := hs5.max
      unfold maxLen at hem
      clear ho5 ho7 ho9 hk4 hk5 hk6 hk7 hk8 hk9 hs5 hs7 hs9 HKr
      go_upto_region 18 with fail
      go_loopw [9, 10, 61] (fun va vb i wr => ∃ (j : Nat) (pa : Option Addr) (ca : Nat) (la : List ByteArray) (pb : Option Addr) (cb : Nat) (lb : List ByteArray), va = .slice pa la.length ca ∧ vb = .slice pb lb.length cb ∧ i = .int .i64 j ∧ GA w9 wr es j pa ca la pb cb lb) (fun _ _ i _ => es.length + 1 - (intOf i).toNat)
      case atStart => exact ⟨0, p7, c7, _, p9, c9, _, rfl, rfl, rfl, HG0.out⟩
      case round =>
        obtain ⟨j, pa, ca, la, pb, cb, lb, rfl, rfl, rfl, hG⟩ := hrel
        have HG := Lib.hid hG
        have hjl := hG.le
        have hac := hG.a.cap
        have ham := hG.a.max
        have hbc := hG.b.cap
        have hbm := hG.b.max
        unfold maxLen at ham hbm
        clear hG HG0
        by_cases hlt : j < es.length
        case neg =>
          obtain rfl : j = es.length := by omega
          have hlz : ¬ (es.length : Int) < (es.length : Int) := by omega
          have ha0 : la.length = 0 := by rw [HG.out.ea, List.drop_length]; rfl
          have hb0 : lb.length = 0 := by rw [HG.out.eb, List.drop_length]; rfl
          have HKe := Lib.hid (HK9.out.trans HG.out.keeps)
          rw [ha0, hb0]
          clear HG ha0 hb0
          go_wp2_with fail
          go_ret
          exact ⟨rfl, HKe.out⟩
        case pos =>
          have hlz : (j : Int) < (es.length : Int) := by omega
          obtain ⟨x, hx⟩ : ∃ x, es[j]? = some x := ⟨_, List.getElem?_eq_getElem hlt⟩
          obtain ⟨g4, o4, rfl, _, _, t1, t2⟩ := (HE.out.keepN HG.out.keeps).ent hx
          have hdrop : es.drop j = x :: es.drop (j + 1) := by
            obtain ⟨h1, h2⟩ := List.getElem?_eq_some_iff.1 hx
            rw [List.drop_eq_getElem_cons h1, h2]
          have hnk := HNm.out x (List.mem_of_getElem? hx)
          have hpc := plainN_cons x (es.drop (j + 1))
          have hdc := dotN_cons x (es.drop (j + 1))
          rw [← hdrop, ← HG.out.ea] at hpc
          rw [← hdrop, ← HG.out.eb] at hdc
          obtain ⟨nm, nn⟩ := x
          simp only at t1 t2 hnk hpc hdc
          have hpos : 0 < nm.size := by
            unfold okName at hnk
            simp only [Bool.and_eq_true, decide_eq_true_eq] at hnk
            omega
          have hdt := hasDot_eq hpos
          obtain ⟨ch, hch⟩ : ∃ ch, nm[0]'hpos = ch := ⟨_, rfl⟩
          rw [hch] at hdt
          clear hx hdrop hnk
          obtain ⟨la2, hL1⟩ : ∃ la2, la2 = plainN (es.drop (j + 1)) := ⟨_, rfl⟩
          obtain ⟨lb2, hL2⟩ : ∃ lb2, lb2 = dotN (es.drop (j + 1)) := ⟨_, rfl⟩
          rw [← hL1] at hpc
          rw [← hL2] at hdc
          cases hd : hasDot nm with
          | true =>
            rw [hd] at hdt
            rw [hd, if_pos rfl] at hpc hdc
            clear hd
            have hsub := HG.out.b.sub 1 lb.length (by rw [hdc]; simp) (Nat.le_refl _)
            rw [List.take_length] at hsub
            obtain ⟨gq, oq, rfl, _, _, tq⟩ := HG.out.b.str (i := 0) (x := nm) (by rw [hdc]; rfl)
            simp only [Nat.add_zero] at tq
            obtain ⟨m, hm⟩ : ∃ m, lb2.length = m := ⟨_, rfl⟩
            have hlm : lb.length = m + 1 := by rw [hdc, ← hm]; rfl
            have hd1 : lb.drop 1 = lb2 := by rw [hdc]; rfl
            rw [hd1] at hsub
            have hz0 : (((m + 1 : Nat) : Int) == 0) = false := by simp; omega
            have hz0' : ((m : Int) + 1 == 0) = false := by simp; omega
            have hmz : (0 : Int) < (m : Int) + 1 := by omega
            have hsl : ∀ wx : World, (Instr.slice 22 (.slice (some ⟨gq, oq, none⟩) (m + 1) cb) (some (.int .i64 1)) none none).run Tryd.prog wx = .ok (.slice (subAt 1 (some ⟨gq, oq, none⟩) cb 1) m (cb - 1)) wx := fun wx => run_slice_l (P := Tryd.prog) 22 9 1 Tryd.underlying22 (by kernel_rfl) (some ⟨gq, oq, none⟩) (m + 1) cb 1 (by omega) wx (by omega)
            have HQ : Hid (∀ wx, Keeps NoB wr wx → GA w9 wx es (j + 1) pa ca la (subAt 1 (some ⟨gq, oq, none⟩) cb 1) (cb - 1) lb2) := Lib.hid fun wx kx =>
              ⟨by omega, HG.out.a.keepN kx, hsub.keepN kx, hpc.trans hL1, hL2, HG.out.keeps.trans kx⟩
            rw [hlm]
            go_upto_region 21 with fail
            have HXb := Lib.hid (Bk.new (Keeps.refl NoB (wr.alloc (.cells #[.string nm, .int .i64 nn] 41))))
            have HXk := Lib.hid ((Keeps.refl NoB wr).alloc (.cells #[.string nm, .int .i64 nn] 41))
            have tq2 := (HXk.out.cell (p := ⟨gq, oq, none⟩) (lt_of_cell tq) (fun h => h)).trans tq
            have hx0 := HXb.out.cell 0 _ rfl
            clear t1 t2 tq hpc hdc hsub hlm hd1
            generalize wr.alloc (.cells #[.string nm, .int .i64 nn] 41) = wx at *
            generalize wr.heap.size = XB at *
            go_quiet (fail)
            all_goals
              go_wp2_with fail
              go_roundw
              case rel => exact ⟨j + 1, pa, ca, la, _, _, lb2, rfl, by rw [hm], by go_num, HQ.out _ (by (repeat (first | exact HXk.out | refine Keeps.drewN ?_ _ | refine Keeps.drew ?_)))⟩
              case measure => simp [intOf]; omega
          | false =>
            rw [hd] at hdt
            rw [hd, if_neg (by simp)] at hpc hdc
            clear hd
            have hsub := HG.out.a.sub 1 la.length (by rw [hpc]; simp) (Nat.le_refl _)
            rw [List.take_length] at hsub
            obtain ⟨gq, oq, rfl, _, _, tq⟩ := HG.out.a.str (i := 0) (x := nm) (by rw [hpc]; rfl)
            simp only [Nat.add_zero] at tq
            obtain ⟨m, hm⟩ : ∃ m, la2.length = m := ⟨_, rfl⟩
            have hlm : la.length = m + 1 := by rw [hpc, ← hm]; rfl
            have hd1 : la.drop 1 = la2 := by rw [hpc]; rfl
            rw [hd1] at hsub
            have hz0 : (((m + 1 : Nat) : Int) == 0) = false := by simp; omega
            have hz0' : ((m : Int) + 1 == 0) = false := by simp; omega
            have hmz : (0 : Int) < (m : Int) + 1 := by omega
            have hsl : ∀ wx : World, (Instr.slice 22 (.slice (some ⟨gq, oq, none⟩) (m + 1) ca) (some (.int .i64 1)) none none).run Tryd.prog wx = .ok (.slice (subAt 1 (some ⟨gq, oq, none⟩) ca 1) m (ca - 1)) wx := fun wx => run_slice_l (P := Tryd.prog) 22 9 1 Tryd.underlying22 (by kernel_rfl) (some ⟨gq, oq, none⟩) (m + 1) ca 1 (by omega) wx (by omega)
            have HQ : Hid (∀ wx, Keeps NoB wr wx → GA w9 wx es (j + 1) (subAt 1 (some ⟨gq, oq, none⟩) ca 1) (ca - 1) la2 pb cb lb) := Lib.hid fun wx kx =>
              ⟨by omega, hsub.keepN kx, HG.out.b.keepN kx, hL1, hdc.trans hL2, HG.out.keeps.trans kx⟩
            rw [hlm]
            go_upto_region 24 with fail
            have HXb := Lib.hid (Bk.new (Keeps.refl NoB (wr.alloc (.cells #[.string nm, .int .i64 nn] 41))))
            have HXk := Lib.hid ((Keeps.refl NoB wr).alloc (.cells #[.string nm, .int .i64 nn] 41))
            have tq2 := (HXk.out.cell (p := ⟨gq, oq, none⟩) (lt_of_cell tq) (fun h => h)).trans tq
            have hx0 := HXb.out.cell 0 _ rfl
            clear t1 t2 tq hpc hdc hsub hlm hd1
            generalize wr.alloc (.cells #[.string nm, .int .i64 nn] 41) = wx at *
            generalize wr.heap.size = XB at *
            go_quiet (fail)
            all_goals
              go_wp2_with fail
              go_roundw
              case rel => exact ⟨j + 1, _, _, la2, pb, cb, lb, by rw [hm], rfl, by go_num, HQ.out _ (by (repeat (first | exact HXk.out | refine Keeps.drewN ?_ _ | refine Keeps.drew ?_)))⟩
              case measure => simp [intOf]; omega

end Go.Proofs.YtfomkkoecelakaaDoor
