/-
  Layer 4's statements: node.
-/
import Derived.Test.YtbcejodnjeklpaaA23
import Derived.Deep.RegionHeld3

set_option linter.unusedSimpArgs false
set_option linter.unusedVariables false

namespace Go.Proofs.Ytbcejodnjeklpaa
open Go.RowKit
set_option maxRecDepth 100000
set_option maxHeartbeats 2000000

/-- What a block of two, of five cells holds. -/
structure C2 (w : World) (g : Nat) (v0 v1 : Value) : Prop where
  lt : g < w.heap.size
  c0 : w.cell? ⟨g, 0, none⟩ = some v0
  c1 : w.cell? ⟨g, 1, none⟩ = some v1
structure C5 (w : World) (g : Nat) (v0 v1 v2 v3 v4 : Value) : Prop where
  lt : g < w.heap.size
  c0 : w.cell? ⟨g, 0, none⟩ = some v0
  c1 : w.cell? ⟨g, 1, none⟩ = some v1
  c2 : w.cell? ⟨g, 2, none⟩ = some v2
  c3 : w.cell? ⟨g, 3, none⟩ = some v3
  c4 : w.cell? ⟨g, 4, none⟩ = some v4
theorem C2.on {w w' : World} {g : Nat} {v0 v1 : Value} (h : C2 w g v0 v1) (k : Keeps NoB w w') : C2 w' g v0 v1 :=
  ⟨Nat.lt_of_lt_of_le h.lt k.size, (k.cell (p := ⟨g, 0, none⟩) h.lt (fun h => h)).trans h.c0, (k.cell (p := ⟨g, 1, none⟩) h.lt (fun h => h)).trans h.c1⟩
theorem C5.on {w w' : World} {g : Nat} {v0 v1 v2 v3 v4 : Value} (h : C5 w g v0 v1 v2 v3 v4) (k : Keeps NoB w w') : C5 w' g v0 v1 v2 v3 v4 :=
  ⟨Nat.lt_of_lt_of_le h.lt k.size, (k.cell (p := ⟨g, 0, none⟩) h.lt (fun h => h)).trans h.c0, (k.cell (p := ⟨g, 1, none⟩) h.lt (fun h => h)).trans h.c1, (k.cell (p := ⟨g, 2, none⟩) h.lt (fun h => h)).trans h.c2,
    (k.cell (p := ⟨g, 3, none⟩) h.lt (fun h => h)).trans h.c3, (k.cell (p := ⟨g, 4, none⟩) h.lt (fun h => h)).trans h.c4⟩
theorem c2_new {w w1 : World} {v0 v1 : Value} {T : TypeId} (k : Keeps NoB (w.alloc (.cells #[v0, v1] T)) w1) : C2 w1 w.heap.size v0 v1 :=
  ⟨Nat.lt_of_lt_of_le (by simp) k.size, boxed k 0 _ rfl, boxed k 1 _ rfl⟩
theorem c5_new {w w1 : World} {v0 v1 v2 v3 v4 : Value} {T : TypeId} (k : Keeps NoB (w.alloc (.cells #[v0, v1, v2, v3, v4] T)) w1) : C5 w1 w.heap.size v0 v1 v2 v3 v4 :=
  ⟨Nat.lt_of_lt_of_le (by simp) k.size, boxed k 0 _ rfl, boxed k 1 _ rfl, boxed k 2 _ rfl, boxed k 3 _ rfl, boxed k 4 _ rfl⟩

section
variable {R : RD} {S : Nat → Prop} {w : World} {a : Nat} {d : Nds} {p : Option Addr} {c : Nat} {room : Int} {lk up : Int → Int}

theorem node_none (hC : Casc R w a d room lk up zp) (hr : RefAt S w p c d) (id : Int) (hi : ¬ has d id) :
    Calls Try.prog 30 #[.pointer (some ⟨a, 0, none⟩), refV p c d room, .int .i64 id] w fun e w' => e = .returned (.bool true) ∧ Keeps NoB w w' := by
  have k1 : Keeps NoB w (w.alloc (.cells #[.slice p d.length c, .int .i64 room] 39)) := (Keeps.refl _ _).alloc _
  have hIn := info_any (hC.rep.keepN k1) id
  rw [if_neg hi, if_neg hi] at hIn
  have HIn := Lib.hid hIn
  have HHa := Lib.hid (fun (w1 : World) (hk : Keeps NoB w w1) => r4has_any (room := room) (hr.keepN hk) hC.inv.zero id)
  rw [decide_eq_false hi] at HHa
  have K1 := Lib.hid k1
  clear hC hr hi k1 hIn
  unfold noInfo at HIn
  unfold refV at *
  go_enter Try.func30, Try.ntmps30
  go_wp2_with (first | (go_at_call 66; refine HIn.out.mono ?_; rintro e w1 ⟨rfl, hk1⟩; have kk := (K1.out.trans hk1).alloc (.cells #[.int .i64 0, .int .i64 0, .int .i64 0, .int .i64 0, .int .i64 0] 102); have KA := c2_new hk1; have A0 := KA.c0; have A1 := KA.c1; have lA := KA.lt) | (go_at_call 18; refine (HHa.out _ kk).mono ?_; rintro e w2 ⟨rfl, hk2⟩; have KI := c5_new hk2; have I0 := KI.c0; have I1 := KI.c1; have I2 := KI.c2; have I3 := KI.c3; have I4 := KI.c4))
  go_ret
  exact ⟨rfl, kk.trans hk2⟩

theorem node_has (hC : Casc R w a d room lk up zp) (hr : RefAt S w p c d) (id : Int) (hi : has d id) :
    Calls Try.prog 30 #[.pointer (some ⟨a, 0, none⟩), refV p c d room, .int .i64 id] w fun e w' => e = .returned (.bool true) ∧ Keeps NoB w w' := by
  have hcap := hr.cap
  have hmax := hr.max
  unfold maxLen at hmax
  have hI := hC.inv
  have hs := hC.small
  have k1 : Keeps NoB w (w.alloc (.cells #[.slice p d.length c, .int .i64 room] 39)) := (Keeps.refl _ _).alloc _
  have hlk : lk id = (links d id : Nat) := by have := hC.cnt id hi; unfold zp at this; exact this
  have hIn := info_any (hC.rep.keepN k1) id
  rw [if_pos hi, if_pos hi, hlk] at hIn
  have HIn := Lib.hid hIn
  have HHa := Lib.hid (fun (w1 : World) (hk : Keeps NoB w w1) => r4has_any (room := room) (hr.keepN hk) hI.zero id)
  rw [decide_eq_true hi] at HHa
  have HLi := Lib.hid (fun (w1 : World) (hk : Keeps NoB w w1) => r4links_any (room := room) (hr.keepN hk) hI.zero (Nat.le_of_lt hI.two) hs id)
  have HDa := Lib.hid (fun (w1 : World) (hk : Keeps NoB w w1) => data_any (hC.rep.keepN hk) id)
  have HRD := Lib.hid (fun (w1 : World) (hk : Keeps NoB w w1) => r4data_any (room := room) (hr.keepN hk) hI id)
  have HLs := Lib.hid (fun (w1 : World) (hk : Keeps NoB w w1) => listD_any (hC.rep.keepN hk) id (nd_ents_len hs id))
  have hes : (if folderErr d id = 0 then (nd d id).ents else []) = (nd d id).ents := by
    split
    · rfl
    · next hf =>
      have : (nd d id).kind ≠ 2 := fun h2 => hf (by unfold folderErr; rw [if_neg (by rw [h2]; decide), if_pos h2])
      exact ((hI.node id).flat this).symm
  rw [hes] at HLs
  have HFo := Lib.hid (fun (w1 : World) (hk : Keeps NoB w w1) => r4folder_any (room := room) (hr.keepN hk) hI.zero id)
  have HUp := Lib.hid (fun (w1 : World) (hk : Keeps NoB w w1) => up_any (hC.rep.keepN hk) id)
  have HRU := Lib.hid (fun (w1 : World) (hk : Keeps NoB w w1) => r4up_any (room := room) (hr.keepN hk) hI.zero (Nat.le_of_lt hI.two) hs id)
  have HUI : Hid ((nd d id).kind = 2 → links d id ≠ 0 → ∀ u, UpIs d id u → up id = u) := fun h2 hl u hu => by
    obtain ⟨u1, u2, u3⟩ := hC.upok id hi
    rcases hu.par h2 with ⟨h3, h4⟩ | h3
    · by_cases e1 : id = 1
      · rw [u2 e1, h4]
      · exact absurd (by unfold links; rw [h3, if_neg e1]) hl
    · exact u1 u h3
  have hkb := hi
  obtain ⟨kb, hkk, hkl⟩ := has_nat hkb
  obtain ⟨g, off, q, m, rfl, hSg, hrow⟩ := hr.rowAt hkl
  have HC := Lib.hid (fun (w1 : World) (hk1 : Keeps NoB w w1) => (⟨(hrow.keepN hk1).c0, (hrow.keepN hk1).c1, (hrow.keepN hk1).c2, (hrow.keepN hk1).c3, (hrow.keepN hk1).c4, (hrow.keepN hk1).lt⟩ : _ ∧ _ ∧ _ ∧ _ ∧ _ ∧ _))
  have HSL := Lib.hid (fun (w1 : World) (hk1 : Keeps NoB w w1) => hrow.sl.keepN hk1)
  have hsz : ((sizeOf4 (nd d id) : Nat) : Int) = if (nd d id).kind = 2 then ((nd d id).ents.length : Int) else ((nd d id).data.size : Int) := by unfold sizeOf4; split <;> rfl
  have K1 := Lib.hid k1
  have hfe : folderErr d id = if (nd d id).kind = 2 then 0 else 14 := by unfold folderErr; rw [if_neg hi]
  clear hC hr k1 hIn hlk hI hs hrow hes hkb
  unfold infoV at HIn
  rw [hsz] at HIn
  rw [hfe] at HLs HFo HUp
  subst hkk
  clear hi hsz hfe
  generalize (nd d (kb : Int)).mode = md at *
  generalize (nd d (kb : Int)).holds = hd at *
  generalize dataOf d (kb : Int) = dO at *
  generalize dataErr d (kb : Int) = dE at *
  generalize (nd d (kb : Int)).data = D at *
  generalize (nd d (kb : Int)).ents = en at *
  have hbb : (dO.toList == dO.toList) = true := by rw [toList_eq]; simp
  unfold refV at *
  by_cases h2 : (nd d (kb : Int)).kind = 2
  case pos =>
      rw [h2] at HIn HC
      simp only [h2, if_true] at HIn HLs HFo HUp
      have HU2 := Lib.hid (HUI.out h2)
      clear HUI h2
      generalize hlks : links d (kb : Int) = lks at *
      clear hlks
      go_enter Try.func30, Try.ntmps30
      go_upto_region 8 with (first | (go_at_call 66; refine HIn.out.mono ?_; rintro e w1 ⟨rfl, hk1⟩; have kk := (K1.out.trans hk1).alloc (.cells #[.int .i64 2, .int .i64 md, .int .i64 (lks : Int), .int .i64 hd, .int .i64 (en.length : Int)] 102); have KA := c2_new hk1; have A0 := KA.c0; have A1 := KA.c1; have lA := KA.lt) | (go_at_call 18; refine (HHa.out _ kk).mono ?_; rintro e w2 ⟨rfl, hk2⟩; have kk2 := kk.trans hk2; have KI := c5_new hk2; replace KA := KA.on (((Keeps.refl NoB w1).alloc _).trans hk2); obtain ⟨R0, R1, R2, R3, R4, hgl⟩ := HC.out _ kk2; (try clear A0 A1 lA); have A0 := KA.c0; have A1 := KA.c1; have lA := KA.lt; have lI := KI.lt; have I0 := KI.c0; have I1 := KI.c1; have I2 := KI.c2; have I3 := KI.c3; have I4 := KI.c4))
      have KJ := c5_new (Keeps.refl NoB (w2.alloc (.cells #[.int .i64 2, .int .i64 md, .int .i64 hd, .string D, .slice q en.length m] 50)))
      replace KA := KA.on ((Keeps.refl NoB w2).alloc (.cells #[.int .i64 2, .int .i64 md, .int .i64 hd, .string D, .slice q en.length m] 50))
      replace KI := KI.on ((Keeps.refl NoB w2).alloc (.cells #[.int .i64 2, .int .i64 md, .int .i64 hd, .string D, .slice q en.length m] 50))
      have kk3 := kk2.alloc (.cells #[.int .i64 2, .int .i64 md, .int .i64 hd, .string D, .slice q en.length m] 50)
      clear A0 A1 lA lI I0 I1 I2 I3 I4 R0 R1 R2 R3 R4 hgl hk1 kk hk2 kk2 HIn HHa HC
      generalize w2.alloc (.cells #[.int .i64 2, .int .i64 md, .int .i64 hd, .string D, .slice q en.length m] 50) = w3 at *
      go_cut [67] from 51 to 67 (fun x wx => x = .bool false ∧ Keeps NoB w3 wx)
      case first =>
        have kr : Keeps NoB w3 w3 := Keeps.refl NoB w3
        have krd : Keeps NoB w3 w3.drew := kr.drew
        have KAd := KA.on krd
        have KId := KI.on krd
        have KJd := KJ.on krd
        go_region_held3 (fun wz => wz.cell? ⟨w.heap.size, 0, none⟩ = some (.slice (some ⟨g, off, none⟩) d.length c) ∧ wz.cell? ⟨w.heap.size, 1, none⟩ = some (.int .i64 room) ∧ wz.cell? ⟨w1.heap.size, 0, none⟩ = some (.int .i64 2) ∧ wz.cell? ⟨w1.heap.size, 1, none⟩ = some (.int .i64 md) ∧ wz.cell? ⟨w1.heap.size, 2, none⟩ = some (.int .i64 (lks : Int)) ∧ wz.cell? ⟨w1.heap.size, 3, none⟩ = some (.int .i64 hd) ∧ wz.cell? ⟨w1.heap.size, 4, none⟩ = some (.int .i64 (en.length : Int)) ∧
            wz.cell? ⟨w2.heap.size, 0, none⟩ = some (.int .i64 2) ∧ wz.cell? ⟨w2.heap.size, 1, none⟩ = some (.int .i64 md) ∧ wz.cell? ⟨w2.heap.size, 2, none⟩ = some (.int .i64 hd) ∧ Keeps NoB w3 wz)
          (first | exact ⟨KA.c0, KA.c1, KI.c0, KI.c1, KI.c2, KI.c3, KI.c4, KJ.c0, KJ.c1, KJ.c2, kr⟩ | exact ⟨KAd.c0, KAd.c1, KId.c0, KId.c1, KId.c2, KId.c3, KId.c4, KJd.c0, KJd.c1, KJd.c2, krd⟩ | exact ⟨KA6.c0, KA6.c1, KI6.c0, KI6.c1, KI6.c2, KI6.c3, KI6.c4, KJ6.c0, KJ6.c1, KJ6.c2, hk36⟩ | exact ⟨KA7.c0, KA7.c1, KI7.c0, KI7.c1, KI7.c2, KI7.c3, KI7.c4, KJ7.c0, KJ7.c1, KJ7.c2, hk37⟩)
          (first | (go_at_call 67; refine (HLi.out _ (kk3.trans (by assumption))).mono ?_; rintro e w6 ⟨rfl, hk6⟩; have hk36 : Keeps NoB w3 w6 := Keeps.trans (by assumption) hk6; have KA6 := KA.on hk36; have KI6 := KI.on hk36; have KJ6 := KJ.on hk36; have hk37 := hk36.drew; have KA7 := KA.on hk37; have KI7 := KI.on hk37; have KJ7 := KJ.on hk37; have A06 := KA6.c0; have A16 := KA6.c1; have I06 := KI6.c0; have I16 := KI6.c1; have I26 := KI6.c2; have I36 := KI6.c3; have I46 := KI6.c4; have J06 := KJ6.c0; have J16 := KJ6.c1; have J26 := KJ6.c2))
        all_goals (go_wp2_with fail; go_meet; exact ⟨by simp, by first | exact hk36 | exact hk37⟩)
      case rest =>
        obtain ⟨rfl, hk34⟩ := hcut
        have kk4 := kk3.trans hk34
        replace KA := KA.on hk34
        replace KJ := KJ.on hk34
        clear KI hk34 kk3
        have A0 := KA.c0
        have A1 := KA.c1
        have J0 := KJ.c0
        have J4 := KJ.c4
        have lA := KA.lt
        have lJ := KJ.lt
        go_wp2_with (first | (go_at_call 12; refine (HDa.out _ kk4).mono ?_; rintro e w5 ⟨rfl, rfl⟩) | (go_at_call 55; refine (HRD.out _ kk4).mono ?_; rintro e w6 ⟨rfl, hk6⟩; have kk6 := kk4.trans hk6; replace KA := KA.on hk6; replace KJ := KJ.on hk6; (try clear A0 A1 J0 J4 lA lJ); have A0 := KA.c0; have A1 := KA.c1; have J0 := KJ.c0; have J4 := KJ.c4; have lA := KA.lt; have lJ := KJ.lt) | (go_at_call 68; refine (HLs.out _ kk6).mono ?_; rintro e w7 ⟨v, rfl, ho, hk7⟩; obtain ⟨pl, cl, rfl, hsl⟩ := ho.sl; have kk7 := kk6.trans hk7; replace KA := KA.on hk7; replace KJ := KJ.on hk7; (try clear A0 A1 J0 J4 lA lJ); have A0 := KA.c0; have A1 := KA.c1; have J0 := KJ.c0; have J4 := KJ.c4; have lA := KA.lt; have lJ := KJ.lt) | (go_at_call 38; refine (HFo.out _ kk7).mono ?_; rintro e w8 ⟨rfl, hk8⟩; have kk8 := kk7.trans hk8; replace KA := KA.on hk8; replace KJ := KJ.on hk8; (try clear A0 A1 J0 J4 lA lJ); have A0 := KA.c0; have A1 := KA.c1; have J0 := KJ.c0; have J4 := KJ.c4; have lA := KA.lt; have lJ := KJ.lt))
        have HKA := Lib.hid KA
        have HKJ := Lib.hid KJ
        have HS8 := Lib.hid (hsl.keepN hk8)
        have hcl := hsl.cap
        have hml := hsl.max
        unfold maxLen at hml
        clear A0 A1 J0 J4 lA lJ ho hsl hk7 hk8 hk6 HDa HRD HLs
        go_loopw [17, 111] (fun _ i wr => ∃ k : Nat, k ≤ en.length ∧ i = .int .i64 k ∧ Keeps NoB w8 wr) (fun _ i _ => en.length - (intOf i).toNat)
        case atStart => exact ⟨0, Nat.zero_le _, rfl, Keeps.refl _ _⟩
        case round =>
          rename_i wr
          obtain ⟨k, hk, rfl, hkp⟩ := hrel
          have Hkp := Lib.hid hkp
          have kkr := kk8.trans hkp
          have KAr := HKA.out.on hkp
          have KJr := HKJ.out.on hkp
          have A0 := KAr.c0
          have A1 := KAr.c1
          have J0 := KJr.c0
          have J4 := KJr.c4
          clear hkp
          by_cases hlt : k < en.length
          · obtain ⟨x, hx⟩ : ∃ x, en[k]? = some x := ⟨_, List.getElem?_eq_getElem hlt⟩
            obtain ⟨g1, off1, rfl, _, _, c0, c1⟩ := (HS8.out.keepN Hkp.out).ent hx
            obtain ⟨g2, off2, rfl, _, _, d0, d1⟩ := (HSL.out _ kkr).ent hx
            clear hx
            have b1 : (0 : Int) ≤ k := by omega
            have b2 : (k : Int) < en.length := by omega
            have hxx : (x.1.toList == x.1.toList) = true := by rw [toList_eq]; simp
            clear kkr
            go_wp2
            go_quiet (fail)
            go_wp2
            go_roundw
            case rel => exact ⟨k + 1, by omega, by go_num, Hkp.out.drewN _⟩
            case measure => simp [intOf]; omega
          · obtain rfl : k = en.length := by omega
            by_cases hl0 : lks = 0
            · subst hl0
              go_wp2_with (first | (go_at_call 69; refine (HUp.out _ kkr).mono ?_; rintro e w9 ⟨rfl, rfl⟩) | (go_at_call 38; refine (HFo.out _ kkr).mono ?_; rintro e w10 ⟨rfl, hk10⟩; have kk10 := kkr.trans hk10; have KAs := KAr.on hk10; have KJs := KJr.on hk10; have A0' := KAs.c0; have A1' := KAs.c1; have J0' := KJs.c0) | (go_at_call 67; refine (HLi.out _ kk10).mono ?_; rintro e w11 ⟨rfl, hk11⟩))
              go_ret
              exact ⟨rfl, kk10.trans hk11⟩
            · have hlb : ((lks : Int) == 0) = false := by simp; exact hl0
              have HUq := Lib.hid (HU2.out hl0)
              go_wp2_with (first | (go_at_call 69; refine (HUp.out _ kkr).mono ?_; rintro e w9 ⟨rfl, rfl⟩) | (go_at_call 38; refine (HFo.out _ kkr).mono ?_; rintro e w10 ⟨rfl, hk10⟩; have kk10 := kkr.trans hk10; have KAs := KAr.on hk10; have KJs := KJr.on hk10; have A0' := KAs.c0; have A1' := KAs.c1; have J0' := KJs.c0) | (go_at_call 67; refine (HLi.out _ kk10).mono ?_; rintro e w11 ⟨rfl, hk11⟩; have kk11 := kk10.trans hk11; have KAt := KAs.on hk11; have A0'' := KAt.c0; have A1'' := KAt.c1) | (go_at_call 70; refine (HRU.out _ kk11).mono ?_; rintro e w12 ⟨u, rfl, hu, hk12⟩; have hbu : (up (kb : Int) == u) = true := (by rw [HUq.out u hu]; simp)))
              go_ret
              exact ⟨rfl, kk11.trans hk12⟩
  case neg =>
      simp only [h2, if_false] at HIn HLs HFo HUp
      have hkb : ((nd d (kb : Int)).kind == 2) = false := by simpa using h2
      clear HUI HRU
      generalize hlks : links d (kb : Int) = lks at *
      clear hlks
      generalize (nd d (kb : Int)).kind = kd at *
      go_enter Try.func30, Try.ntmps30
      go_upto_region 8 with (first | (go_at_call 66; refine HIn.out.mono ?_; rintro e w1 ⟨rfl, hk1⟩; have kk := (K1.out.trans hk1).alloc (.cells #[.int .i64 kd, .int .i64 md, .int .i64 (lks : Int), .int .i64 hd, .int .i64 (D.size : Int)] 102); have KA := c2_new hk1; have A0 := KA.c0; have A1 := KA.c1; have lA := KA.lt) | (go_at_call 18; refine (HHa.out _ kk).mono ?_; rintro e w2 ⟨rfl, hk2⟩; have kk2 := kk.trans hk2; have KI := c5_new hk2; replace KA := KA.on (((Keeps.refl NoB w1).alloc _).trans hk2); obtain ⟨R0, R1, R2, R3, R4, hgl⟩ := HC.out _ kk2; (try clear A0 A1 lA); have A0 := KA.c0; have A1 := KA.c1; have lA := KA.lt; have lI := KI.lt; have I0 := KI.c0; have I1 := KI.c1; have I2 := KI.c2; have I3 := KI.c3; have I4 := KI.c4))
      have KJ := c5_new (Keeps.refl NoB (w2.alloc (.cells #[.int .i64 kd, .int .i64 md, .int .i64 hd, .string D, .slice q en.length m] 50)))
      replace KA := KA.on ((Keeps.refl NoB w2).alloc (.cells #[.int .i64 kd, .int .i64 md, .int .i64 hd, .string D, .slice q en.length m] 50))
      replace KI := KI.on ((Keeps.refl NoB w2).alloc (.cells #[.int .i64 kd, .int .i64 md, .int .i64 hd, .string D, .slice q en.length m] 50))
      have kk3 := kk2.alloc (.cells #[.int .i64 kd, .int .i64 md, .int .i64 hd, .string D, .slice q en.length m] 50)
      clear A0 A1 lA lI I0 I1 I2 I3 I4 R0 R1 R2 R3 R4 hgl hk1 kk hk2 kk2 HIn HHa HC
      generalize w2.alloc (.cells #[.int .i64 kd, .int .i64 md, .int .i64 hd, .string D, .slice q en.length m] 50) = w3 at *
      go_cut [67] from 51 to 67 (fun x wx => x = .bool false ∧ Keeps NoB w3 wx)
      case first =>
        have kr : Keeps NoB w3 w3 := Keeps.refl NoB w3
        have krd : Keeps NoB w3 w3.drew := kr.drew
        have KAd := KA.on krd
        have KId := KI.on krd
        have KJd := KJ.on krd
        go_region_held3 (fun wz => wz.cell? ⟨w.heap.size, 0, none⟩ = some (.slice (some ⟨g, off, none⟩) d.length c) ∧ wz.cell? ⟨w.heap.size, 1, none⟩ = some (.int .i64 room) ∧ wz.cell? ⟨w1.heap.size, 0, none⟩ = some (.int .i64 kd) ∧ wz.cell? ⟨w1.heap.size, 1, none⟩ = some (.int .i64 md) ∧ wz.cell? ⟨w1.heap.size, 2, none⟩ = some (.int .i64 (lks : Int)) ∧ wz.cell? ⟨w1.heap.size, 3, none⟩ = some (.int .i64 hd) ∧ wz.cell? ⟨w1.heap.size, 4, none⟩ = some (.int .i64 (D.size : Int)) ∧
            wz.cell? ⟨w2.heap.size, 0, none⟩ = some (.int .i64 kd) ∧ wz.cell? ⟨w2.heap.size, 1, none⟩ = some (.int .i64 md) ∧ wz.cell? ⟨w2.heap.size, 2, none⟩ = some (.int .i64 hd) ∧ Keeps NoB w3 wz)
          (first | exact ⟨KA.c0, KA.c1, KI.c0, KI.c1, KI.c2, KI.c3, KI.c4, KJ.c0, KJ.c1, KJ.c2, kr⟩ | exact ⟨KAd.c0, KAd.c1, KId.c0, KId.c1, KId.c2, KId.c3, KId.c4, KJd.c0, KJd.c1, KJd.c2, krd⟩ | exact ⟨KA6.c0, KA6.c1, KI6.c0, KI6.c1, KI6.c2, KI6.c3, KI6.c4, KJ6.c0, KJ6.c1, KJ6.c2, hk36⟩ | exact ⟨KA7.c0, KA7.c1, KI7.c0, KI7.c1, KI7.c2, KI7.c3, KI7.c4, KJ7.c0, KJ7.c1, KJ7.c2, hk37⟩)
          (first | (go_at_call 67; refine (HLi.out _ (kk3.trans (by assumption))).mono ?_; rintro e w6 ⟨rfl, hk6⟩; have hk36 : Keeps NoB w3 w6 := Keeps.trans (by assumption) hk6; have KA6 := KA.on hk36; have KI6 := KI.on hk36; have KJ6 := KJ.on hk36; have hk37 := hk36.drew; have KA7 := KA.on hk37; have KI7 := KI.on hk37; have KJ7 := KJ.on hk37; have A06 := KA6.c0; have A16 := KA6.c1; have I06 := KI6.c0; have I16 := KI6.c1; have I26 := KI6.c2; have I36 := KI6.c3; have I46 := KI6.c4; have J06 := KJ6.c0; have J16 := KJ6.c1; have J26 := KJ6.c2))
        all_goals (go_wp2_with fail; go_meet; exact ⟨by simp, by first | exact hk36 | exact hk37⟩)
      case rest =>
        obtain ⟨rfl, hk34⟩ := hcut
        have kk4 := kk3.trans hk34
        replace KA := KA.on hk34
        replace KJ := KJ.on hk34
        clear KI hk34 kk3
        have A0 := KA.c0
        have A1 := KA.c1
        have J0 := KJ.c0
        have J4 := KJ.c4
        have lA := KA.lt
        have lJ := KJ.lt
        go_wp2_with (first | (go_at_call 12; refine (HDa.out _ kk4).mono ?_; rintro e w5 ⟨rfl, rfl⟩) | (go_at_call 55; refine (HRD.out _ kk4).mono ?_; rintro e w6 ⟨rfl, hk6⟩; have kk6 := kk4.trans hk6; replace KA := KA.on hk6; replace KJ := KJ.on hk6; (try clear A0 A1 J0 J4 lA lJ); have A0 := KA.c0; have A1 := KA.c1; have J0 := KJ.c0; have J4 := KJ.c4; have lA := KA.lt; have lJ := KJ.lt) | (go_at_call 68; refine (HLs.out _ kk6).mono ?_; rintro e w7 ⟨v, rfl, ho, hk7⟩; obtain ⟨pl, cl, rfl, hsl⟩ := ho.sl; have kk7 := kk6.trans hk7; replace KA := KA.on hk7; replace KJ := KJ.on hk7; (try clear A0 A1 J0 J4 lA lJ); have A0 := KA.c0; have A1 := KA.c1; have J0 := KJ.c0; have J4 := KJ.c4; have lA := KA.lt; have lJ := KJ.lt) | (go_at_call 38; refine (HFo.out _ kk7).mono ?_; rintro e w8 ⟨rfl, hk8⟩; have kk8 := kk7.trans hk8; replace KA := KA.on hk8; replace KJ := KJ.on hk8; (try clear A0 A1 J0 J4 lA lJ); have A0 := KA.c0; have A1 := KA.c1; have J0 := KJ.c0; have J4 := KJ.c4; have lA := KA.lt; have lJ := KJ.lt))
        have HKA := Lib.hid KA
        have HKJ := Lib.hid KJ
        have HS8 := Lib.hid (hsl.keepN hk8)
        have hcl := hsl.cap
        have hml := hsl.max
        unfold maxLen at hml
        clear A0 A1 J0 J4 lA lJ ho hsl hk7 hk8 hk6 HDa HRD HLs
        go_loopw [17, 111] (fun _ i wr => ∃ k : Nat, k ≤ en.length ∧ i = .int .i64 k ∧ Keeps NoB w8 wr) (fun _ i _ => en.length - (intOf i).toNat)
        case atStart => exact ⟨0, Nat.zero_le _, rfl, Keeps.refl _ _⟩
        case round =>
          rename_i wr
          obtain ⟨k, hk, rfl, hkp⟩ := hrel
          have Hkp := Lib.hid hkp
          have kkr := kk8.trans hkp
          have KAr := HKA.out.on hkp
          have KJr := HKJ.out.on hkp
          have A0 := KAr.c0
          have A1 := KAr.c1
          have J0 := KJr.c0
          have J4 := KJr.c4
          clear hkp
          by_cases hlt : k < en.length
          · obtain ⟨x, hx⟩ : ∃ x, en[k]? = some x := ⟨_, List.getElem?_eq_getElem hlt⟩
            obtain ⟨g1, off1, rfl, _, _, c0, c1⟩ := (HS8.out.keepN Hkp.out).ent hx
            obtain ⟨g2, off2, rfl, _, _, d0, d1⟩ := (HSL.out _ kkr).ent hx
            clear hx
            have b1 : (0 : Int) ≤ k := by omega
            have b2 : (k : Int) < en.length := by omega
            have hxx : (x.1.toList == x.1.toList) = true := by rw [toList_eq]; simp
            clear kkr
            go_wp2
            go_quiet (fail)
            go_wp2
            go_roundw
            case rel => exact ⟨k + 1, by omega, by go_num, Hkp.out.drewN _⟩
            case measure => simp [intOf]; omega
          · obtain rfl : k = en.length := by omega
            go_wp2_with (first | (go_at_call 69; refine (HUp.out _ kkr).mono ?_; rintro e w9 ⟨rfl, rfl⟩) | (go_at_call 38; refine (HFo.out _ kkr).mono ?_; rintro e w10 ⟨rfl, hk10⟩; have kk10 := kkr.trans hk10; have KAs := KAr.on hk10; have KJs := KJr.on hk10; have A0' := KAs.c0; have A1' := KAs.c1; have J0' := KJs.c0))
            go_ret
            exact ⟨rfl, kk10⟩

end

/-- node, in a law. -/
theorem law_node {W w : World} {X a : Nat} {p : Option Addr} {c : Nat} {d : Nds} {room : Int} (h : LawAt W w X a p c d room) (id : Int) :
    Calls Try.prog 30 #[.pointer (some ⟨a, 0, none⟩), refV p c d room, .int .i64 id] w fun e w' => e = .returned (.bool true) ∧ Keeps NoB w w' := by
  obtain ⟨R, ⟨⟨lk, up, hC⟩, _, _, _⟩, h2, h3⟩ := h.pair.both
  by_cases hi : has d id
  · exact node_has hC h3 id hi
  · exact node_none hC h3 id hi

end Go.Proofs.Ytbcejodnjeklpaa
