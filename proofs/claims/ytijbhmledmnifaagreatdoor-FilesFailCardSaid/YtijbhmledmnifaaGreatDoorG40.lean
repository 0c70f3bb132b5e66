/-
 Layer 6's statements: same.
-/
import Derived.Test.YtijbhmledmnifaaGreatDoorG21
import Derived.Test.YtijbhmledmnifaaGreatDoorG38
import Derived.Test.YtijbhmledmnifaaGreatDoorG39
import Derived.Deep.RegionHeld3
import Derived.Test.YtijbhmledmnifaaGreatDoorG22
import Derived.Test.YtijbhmledmnifaaGreatDoorG24
import Derived.Test.YtijbhmledmnifaaGreatDoorG26
import Derived.Test.YtijbhmledmnifaaGreatDoorG28
import Derived.Test.YtijbhmledmnifaaGreatDoorG29
import Derived.Test.YtijbhmledmnifaaGreatDoorG35
import Derived.Test.YtijbhmledmnifaaGreatDoorG37
import Derived.Test.YtijbhmledmnifaaGreatDoorG23
import Derived.Test.YtijbhmledmnifaaGreatDoorG08
import Derived.Test.YtijbhmledmnifaaGreatDoorG01
import Derived.Test.YtijbhmledmnifaaGreatDoorG15
import Derived.Test.YtijbhmledmnifaaGreatDoorG11
import Derived.Test.YtijbhmledmnifaaGreatDoorG20
import Derived.Test.YtijbhmledmnifaaGreatDoorG16
import Derived.Test.YtijbhmledmnifaaGreatDoorG18
import Derived.Test.YtijbhmledmnifaaGreatDoorG07
import Derived.Test.YtijbhmledmnifaaGreatDoorG04
import Derived.StillTailTactics
import Derived.Test.YtijbhmledmnifaaGreatDoorG03
import Derived.ProofKit
import Derived.OpenShut
import Derived.ShutString
import Derived.ChangeOld
import Derived.Deep.Slices
import Derived.Deep.Fields

set_option linter.unusedSimpArgs false
set_option linter.unusedVariables false
set_option maxRecDepth 100000
set_option maxHeartbeats 8000000
namespace Go.Proofs.YtijbhmledmnifaaGreatDoor
open Go Go.RowKit
structure SmAt (w : World) (B0 F a : Nat) (d : Nds) (room calls fail ro : Int) (p : Option Addr) (c : Nat) : Prop where
 f : ∃ N : Nat -> Prop, FSt N w F a d room calls fail
 r : ∃ S : Nat -> Prop, RefAt S w p c d
 lt : B0 < w.heap.size
 c0 : w.cell? ⟨B0, 0, none⟩ = some (.pointer (some ⟨F, 0, none⟩))
 c3 : w.cell? ⟨B0, 3, none⟩ = some (.slice p d.length c)
 c4 : w.cell? ⟨B0, 4, none⟩ = some (.int .i64 ro)
section
variable {w w' : World} {B0 F a : Nat} {d : Nds} {room calls fail ro : Int} {p : Option Addr} {c : Nat}
theorem SmAt.on (h : SmAt w B0 F a d room calls fail ro p c) (k : Keeps NoB w w') : SmAt w' B0 F a d room calls fail ro p c := by
 obtain ⟨N, hN⟩ := h.f
 obtain ⟨S, hS⟩ := h.r
 exact ⟨⟨N, hN.on k⟩, ⟨S, hS.keepN k⟩, Nat.lt_of_lt_of_le h.lt k.size, (k.cell (p := ⟨B0, 0, none⟩) h.lt (fun h => h)).trans h.c0, (k.cell (p := ⟨B0, 3, none⟩) h.lt (fun h => h)).trans h.c3, (k.cell (p := ⟨B0, 4, none⟩) h.lt (fun h => h)).trans h.c4⟩
theorem SmAt.inv (h : SmAt w B0 F a d room calls fail ro p c) : DInv d := by obtain ⟨N, hN⟩ := h.f; exact hN.pd.inv
theorem SmAt.small (h : SmAt w B0 F a d room calls fail ro p c) : smallD d := by obtain ⟨N, hN⟩ := h.f; exact hN.pd.small
theorem SmAt.disk (h : SmAt w B0 F a d room calls fail ro p c) : Calls Tryz.prog 35 #[.pointer (some ⟨F, 0, none⟩)] w fun e w' => e = .returned (.pointer (some ⟨a, 0, none⟩)) ∧ w' = w := by
 obtain ⟨N, hN⟩ := h.f
 exact (disk_any hN).mono fun e w' h => ⟨h.1, h.2.symm⟩
theorem SmAt.info (h : SmAt w B0 F a d room calls fail ro p c) (i : Int) : Calls Tryz.prog 42 #[.pointer (some ⟨a, 0, none⟩), .int .i64 i] w fun e w' => e = .returned (.tuple #[infoAt d i, .int .i64 (if has d i then 0 else 12)]) ∧ Keeps NoB w w' := by
 obtain ⟨N, hN⟩ := h.f
 exact hN.info i
theorem SmAt.data (h : SmAt w B0 F a d room calls fail ro p c) (i : Int) : Calls Tryz.prog 70 #[.pointer (some ⟨a, 0, none⟩), .int .i64 i] w fun e w' => e = .returned (.tuple #[.string (dataOf d i), .int .i64 (dataErr d i)]) ∧ w' = w := by
 obtain ⟨N, hN⟩ := h.f
 exact hN.pd.tells fun _ _ _ hR _ _ => (data_any hR i).mono fun e w' h => ⟨h.1, h.2.symm⟩
def LsTo (w : World) (l : List Ent) : Ending -> World -> Prop := fun e w' => ∃ p c, e = .returned (.tuple #[.slice p l.length c, .int .i64 0]) ∧ SlAt encEnt (fun g => w.heap.size <= g) w' p c l ∧ Keeps NoB w w'
theorem SmAt.list (h : SmAt w B0 F a d room calls fail ro p c) (i : Int) (hk : (nd d i).kind = 2) : Calls Tryz.prog 71 #[.pointer (some ⟨a, 0, none⟩), .int .i64 i] w (LsTo w (nd d i).ents) := by
 obtain ⟨N, hN⟩ := h.f
 have hf : folderErr d i = 0 := by unfold folderErr; rw [if_neg (by rw [hk]; decide), if_pos hk]
 refine hN.pd.tells fun _ _ _ hR _ _ => (listD_any hR i (nd_ents_len h.small i)).mono fun e w' h => ?_
 obtain ⟨v, rfl, hv, hk⟩ := h
 rw [if_pos hf] at hv
 obtain ⟨q, m, rfl, hs⟩ := hv.sl
 rw [hf]
 exact ⟨q, m, rfl, hs, hk⟩
theorem SmAt.has (h : SmAt w B0 F a d room calls fail ro p c) (i : Int) : Calls Tryz.prog 68 #[.agg #[.slice p d.length c, .int .i64 ro], .int .i64 i] w fun e w' => e = .returned (.bool (decide (has d i))) ∧ Keeps NoB w w' := by
 obtain ⟨S, hS⟩ := h.r
 exact r4has_any (room := ro) hS h.inv.zero i
theorem SmAt.links (h : SmAt w B0 F a d room calls fail ro p c) (i : Int) : Calls Tryz.prog 69 #[.agg #[.slice p d.length c, .int .i64 ro], .int .i64 i] w fun e w' => e = .returned (.int .i64 (links d i)) ∧ Keeps NoB w w' := by
 obtain ⟨S, hS⟩ := h.r
 exact r4links_any (room := ro) hS h.inv.zero (Nat.le_of_lt h.inv.two) h.small i
theorem same_none (h : SmAt w B0 F a d room calls fail ro p c) (i : Int) (hi : ¬ has d i) (deep : Int) :
  Calls Tryz.prog 20 #[.pointer (some ⟨B0, 0, none⟩), .int .i64 i, .int .i64 i, .int .i64 deep] w fun e w' => e = .returned (.bool true) ∧ Keeps NoB w w' := by
 have HIn := Lib.hid (h.info i)
 have HDk := Lib.hid h.disk
 rw [show infoAt d i = .agg #[.int .i64 0, .int .i64 0, .int .i64 0, .int .i64 0, .int .i64 0] from if_neg hi, if_neg hi] at HIn
 have HHa := Lib.hid (fun (wx : World) (k : Keeps NoB w wx) => (h.on k).has i)
 rw [decide_eq_false hi] at HHa
 have HS := Lib.hid h
 have c0 := h.c0
 clear h hi
 go_enter Tryz.func20, Tryz.ntmps20
 go_upto_region 2 with (first | (go_at_call 35; go_loud (refine HDk.out.mono ?_); rintro e wf ⟨rfl, rfl⟩) | (go_at_call 42; go_loud (refine HIn.out.mono ?_); rintro e w1 ⟨rfl, hk1⟩))
 have HK := Lib.hid (hk1.alloc (.cells #[.int .i64 0, .int .i64 0, .int .i64 0, .int .i64 0, .int .i64 0] 64))
 clear hk1 c0 HIn HDk
 generalize w1.alloc (.cells #[.int .i64 0, .int .i64 0, .int .i64 0, .int .i64 0, .int .i64 0] 64) = w2 at *
 have c3 := (HS.out.on HK.out).c3
 have c4 := (HS.out.on HK.out).c4
 go_wp2_with (go_at_call 68; go_loud (refine (HHa.out _ HK.out).mono ?_); rintro e w3 ⟨rfl, hk3⟩)
 go_ret
 exact ⟨rfl, HK.out.trans hk3⟩
theorem same_round (h : SmAt w B0 F a d room calls fail ro p c) (i : Int) (hi : has d i) (D D' : Int) (hw : D ≠ 0 -> IntKind.i64.wrap (D - 1) = D')
  (ih : D ≠ 0 -> ∀ wx, Keeps NoB w wx -> ∀ j : Int, Calls Tryz.prog 20 #[.pointer (some ⟨B0, 0, none⟩), .int .i64 j, .int .i64 j, .int .i64 D'] wx fun e w' => e = .returned (.bool true) ∧ Keeps NoB wx w') :
  Calls Tryz.prog 20 #[.pointer (some ⟨B0, 0, none⟩), .int .i64 i, .int .i64 i, .int .i64 D] w fun e w' => e = .returned (.bool true) ∧ Keeps NoB w w' := by
 have HDk := Lib.hid (fun (wx : World) (k : Keeps NoB w wx) => (h.on k).disk)
 have HIn := Lib.hid (h.info i)
 rw [show infoAt d i = infoV (nd d i) ((links d i : Nat) : Int) from if_pos hi, if_pos hi] at HIn
 have HHa := Lib.hid (fun (wx : World) (k : Keeps NoB w wx) => (h.on k).has i)
 rw [decide_eq_true hi] at HHa
 have HLi := Lib.hid (fun (wx : World) (k : Keeps NoB w wx) => (h.on k).links i)
 have HDa := Lib.hid (fun (wx : World) (k : Keeps NoB w wx) => (h.on k).data i)
 have HLs := Lib.hid (fun (wx : World) (k : Keeps NoB w wx) (hk : (nd d i).kind = 2) => (h.on k).list i hk)
 have HIH := Lib.hid ih
 have HWr := Lib.hid hw
 have hda : (nd d i).kind ≠ 2 -> dataOf d i = (nd d i).data := fun hk => by unfold dataOf; rw [if_neg hi, if_neg hk]
 obtain ⟨k, hk2, hk⟩ := has_nat hi
 obtain ⟨S, hS⟩ := h.r
 have hcap := hS.cap
 have hmax := hS.max
 unfold maxLen at hmax
 have hsm := h.small
 have hel := nd_ents_len hsm i
 obtain ⟨gr, off, q, mq, rfl, hSg, hrow⟩ := hS.rowAt hk
 have HSm := Lib.hid h
 subst hk2
 have HRo := Lib.hid hrow
 have hkz : (k : Int) < (d.length : Int) := by omega
 have c0 := h.c0
 clear h hi ih hw hk hrow hS hsm
 unfold infoV at HIn
 obtain ⟨kd, hkd⟩ : ∃ kd, (nd d (k : Int)).kind = kd := ⟨_, rfl⟩
 obtain ⟨md, hmd⟩ : ∃ md, (nd d (k : Int)).mode = md := ⟨_, rfl⟩
 obtain ⟨hd, hhd⟩ : ∃ hd, (nd d (k : Int)).holds = hd := ⟨_, rfl⟩
 obtain ⟨dt, hdt⟩ : ∃ dt, (nd d (k : Int)).data = dt := ⟨_, rfl⟩
 obtain ⟨en, hen⟩ : ∃ en, (nd d (k : Int)).ents = en := ⟨_, rfl⟩
 have HC := Lib.hid (fun (w1 : World) (hk1 : Keeps NoB w w1) => (show w1.cell? ⟨gr, off + k * 5, none⟩ = some (.int .i64 kd) ∧ w1.cell? ⟨gr, off + k * 5 + 1, none⟩ = some (.int .i64 md) ∧ w1.cell? ⟨gr, off + k * 5 + 2, none⟩ = some (.int .i64 hd) ∧ w1.cell? ⟨gr, off + k * 5 + 3, none⟩ = some (.string dt) ∧ w1.cell? ⟨gr, off + k * 5 + 4, none⟩ = some (.slice q en.length mq) ∧ gr < w1.heap.size from by
  rw [<- hkd, <- hmd, <- hhd, <- hdt, <- hen]
  exact ⟨(HRo.out.keepN hk1).c0, (HRo.out.keepN hk1).c1, (HRo.out.keepN hk1).c2, (HRo.out.keepN hk1).c3, (HRo.out.keepN hk1).c4, (HRo.out.keepN hk1).lt⟩))
 have HSL := Lib.hid (fun (w1 : World) (hk1 : Keeps NoB w w1) => (show SlAt encEnt S w1 q mq en from by rw [<- hen]; exact (HRo.out.keepN hk1).sl))
 rw [hkd, hmd, hhd] at HIn
 rw [hkd] at HLs hda
 rw [hdt] at hda
 rw [hen] at HLs hel
 generalize links d (k : Int) = lks at *
 generalize sizeOf4 (nd d (k : Int)) = sz at *
 generalize dataOf d (k : Int) = dO at *
 generalize dataErr d (k : Int) = dE at *
 clear hkd hmd hhd hdt hen HRo
 replace hda := Lib.hid hda
 go_enter Tryz.func20, Tryz.ntmps20
 go_upto_region 2 with (first | (go_at_call 35; go_loud (refine (HDk.out _ (Keeps.refl _ _)).mono ?_); rintro e wf ⟨rfl, rfl⟩) | (go_at_call 42; go_loud (refine HIn.out.mono ?_); rintro e w1 ⟨rfl, hk1⟩))
 have HK := Lib.hid (hk1.alloc (.cells #[.int .i64 kd, .int .i64 md, .int .i64 (lks : Int), .int .i64 hd, .int .i64 (sz : Int)] 64))
 have HB := Lib.hid (Bk.new (Keeps.refl NoB (w1.alloc (.cells #[.int .i64 kd, .int .i64 md, .int .i64 (lks : Int), .int .i64 hd, .int .i64 (sz : Int)] 64))))
 clear hk1 c0 HIn
 generalize w1.alloc (.cells #[.int .i64 kd, .int .i64 md, .int .i64 (lks : Int), .int .i64 hd, .int .i64 (sz : Int)] 64) = w2 at *
 generalize w1.heap.size = IB at *
 have c3 := (HSm.out.on HK.out).c3
 have c4 := (HSm.out.on HK.out).c4
 go_upto_region 4 with (go_at_call 68; go_loud (refine (HHa.out _ HK.out).mono ?_); rintro e w3 ⟨rfl, hk3⟩)
 replace HB := Lib.hid (HB.out.on hk3)
 replace HK := Lib.hid (HK.out.trans hk3)
 clear c3 c4 hk3 HHa
 have c3 := (HSm.out.on HK.out).c3
 obtain ⟨r0, r1, r2, r3, r4, rl⟩ := HC.out _ HK.out
 go_upto_region 5 with fail
 have HN := Lib.hid (Bk.new (Keeps.refl NoB (w3.alloc (.cells #[.int .i64 kd, .int .i64 md, .int .i64 hd, .string dt, .slice q en.length mq] 80))))
 replace HB := Lib.hid (HB.out.on ((Keeps.refl NoB w3).alloc (.cells #[.int .i64 kd, .int .i64 md, .int .i64 hd, .string dt, .slice q en.length mq] 80)))
 replace HK := Lib.hid (HK.out.alloc (.cells #[.int .i64 kd, .int .i64 md, .int .i64 hd, .string dt, .slice q en.length mq] 80))
 clear c3 r0 r1 r2 r3 r4 rl HC
 generalize w3.alloc (.cells #[.int .i64 kd, .int .i64 md, .int .i64 hd, .string dt, .slice q en.length mq] 80) = w4 at *
 generalize w3.heap.size = NB at *
 go_cut [73] from 46 to 73 (fun x wx => x = .bool false ∧ Keeps NoB w4 wx)
 case first =>
  have kr : Keeps NoB w4 w4.drew := (Keeps.refl NoB w4).drew
  have s3 := (HSm.out.on (HK.out.trans kr)).c3
  have s4 := (HSm.out.on (HK.out.trans kr)).c4
  have i0 := (HB.out.on kr).cell 0 _ rfl
  have i1 := (HB.out.on kr).cell 1 _ rfl
  have i2 := (HB.out.on kr).cell 2 _ rfl
  have n0 := (HN.out.on kr).cell 0 _ rfl
  have n1 := (HN.out.on kr).cell 1 _ rfl
  go_region_held3 (fun wz => wz.cell? ⟨B0, 3, none⟩ = some (.slice (some ⟨gr, off, none⟩) d.length c) ∧ wz.cell? ⟨B0, 4, none⟩ = some (.int .i64 ro) ∧ wz.cell? ⟨IB, 0, none⟩ = some (.int .i64 kd) ∧ wz.cell? ⟨IB, 1, none⟩ = some (.int .i64 md) ∧ wz.cell? ⟨IB, 2, none⟩ = some (.int .i64 (lks : Int)) ∧ wz.cell? ⟨NB, 0, none⟩ = some (.int .i64 kd) ∧ wz.cell? ⟨NB, 1, none⟩ = some (.int .i64 md))
   (refine ⟨?_, ?_, ?_, ?_, ?_, ?_, ?_⟩ <;> with_reducible assumption)
   (first | (go_at_call 69; refine (HLi.out _ (HK.out.trans (by (repeat (first | with_reducible assumption | (with_reducible exact Keeps.refl _ _) | (with_reducible refine Keeps.drew ?_) | (with_reducible refine Keeps.drewN ?_ _)))))).mono ?_; rintro e w6 ⟨rfl, hk6⟩; have zk : Keeps NoB w4 w6 := Keeps.trans (by (repeat (first | with_reducible assumption | (with_reducible exact Keeps.refl _ _) | (with_reducible refine Keeps.drew ?_) | (with_reducible refine Keeps.drewN ?_ _)))) hk6; have z3 := (HSm.out.on (HK.out.trans zk)).c3; have z4 := (HSm.out.on (HK.out.trans zk)).c4; have j0 := (HB.out.on zk).cell 0 _ rfl; have j1 := (HB.out.on zk).cell 1 _ rfl; have j2 := (HB.out.on zk).cell 2 _ rfl; have m0 := (HN.out.on zk).cell 0 _ rfl; have m1 := (HN.out.on zk).cell 1 _ rfl))
  all_goals (go_wp2_with fail; go_meet; exact ⟨by simp, by first | exact zk | exact zk.drew⟩)
 case rest =>
 obtain ⟨rfl, hk5⟩ := hcut
 replace HB := Lib.hid (HB.out.on hk5)
 replace HN := Lib.hid (HN.out.on hk5)
 replace HK := Lib.hid (HK.out.trans hk5)
 clear hk5 HLi
 have c0 := (HSm.out.on HK.out).c0
 have n0 := HN.out.cell 0 _ rfl
 have n3 := HN.out.cell 3 _ rfl
 have n4 := HN.out.cell 4 _ rfl
 by_cases h2 : kd = 2
 case neg =>
  have hb2 : (kd != 2) = true := by simpa using h2
  obtain rfl : dO = dt := hda.out h2
  have hbb : (dO.toList == dO.toList) = true := by rw [toList_eq]; simp
  clear h2 hda
  go_wp2_with (first | (go_at_call 35; go_loud (refine (HDk.out _ HK.out).mono ?_); rintro e wf ⟨rfl, rfl⟩) | (go_at_call 70; go_loud (refine (HDa.out _ HK.out).mono ?_); rintro e wf ⟨rfl, rfl⟩))
  go_ret
  exact ⟨by simp, HK.out⟩
 case pos =>
 subst h2
 have HL := Lib.hid (HLs.out _ HK.out rfl)
 clear hda HLs
 unfold LsTo at HL
 by_cases hD : D = 0
 case pos =>
  subst hD
  go_wp2_with (first | (go_at_call 35; go_loud (refine (HDk.out _ HK.out).mono ?_); rintro e wf ⟨rfl, rfl⟩) | (go_at_call 71; go_loud (refine HL.out.mono ?_); rintro e w7 ⟨pl, cl, rfl, hsl, hk7⟩; have n4' := (HN.out.on hk7).cell 4 _ rfl))
  go_ret
  exact ⟨rfl, HK.out.trans hk7⟩
 case neg =>
 have hbD : (D == 0) = false := by simpa using hD
 have HI2 := Lib.hid (HIH.out hD)
 have hwr := HWr.out hD
 clear HIH HWr hD
 go_upto_region 13 with (first | (go_at_call 35; go_loud (refine (HDk.out _ HK.out).mono ?_); rintro e wf ⟨rfl, rfl⟩) | (go_at_call 71; go_loud (refine HL.out.mono ?_); rintro e w7 ⟨pl, cl, rfl, hsl, hk7⟩; have n4' := (HN.out.on hk7).cell 4 _ rfl))
 have HS7 := Lib.hid hsl
 have hcl := hsl.cap
 have hml := hsl.max
 unfold maxLen at hml
 replace HN := Lib.hid (HN.out.on hk7)
 replace HK := Lib.hid (HK.out.trans hk7)
 clear hsl hk7 n4' c0 n0 n3 n4 HL HDk HDa
 go_wp2
 go_loopw [16, 115] (fun _ iv wr => ∃ j : Nat, j <= en.length ∧ iv = .int .i64 j ∧ Keeps NoB w7 wr) (fun _ iv _ => en.length + 1 - (intOf iv).toNat)
 case atStart => exact ⟨0, Nat.zero_le _, rfl, Keeps.refl _ _⟩
 case round =>
  obtain ⟨j, hj, rfl, hkp⟩ := hrel
  have HKp := Lib.hid hkp
  clear hkp
  by_cases hlt : j < en.length
  case pos =>
   have hlz : (j : Int) < (en.length : Int) := by omega
   obtain ⟨x, hx⟩ : ∃ x, en[j]? = some x := ⟨_, List.getElem?_eq_getElem hlt⟩
   obtain ⟨g1, o1, rfl, _, _, a0, a1⟩ := (HS7.out.keepN HKp.out).ent hx
   obtain ⟨g2, o2, rfl, _, _, b0, b1⟩ := (HSL.out _ (HK.out.trans HKp.out)).ent hx
   have n4 := (HN.out.on HKp.out).cell 4 _ rfl
   clear hx
   obtain ⟨xn, xi⟩ := x
   simp only at a0 a1 b0 b1
   have hbb : (xn.toList == xn.toList) = true := by rw [toList_eq]; simp
   have q1 : (0 : Int) <= j := by omega
   go_upto_region 16 with fail
   go_cut [147] from 118 to 147 (fun x wx => x = .bool false ∧ Keeps NoB wr wx)
   case first =>
    have kr : Keeps NoB wr wr.drew := (Keeps.refl NoB wr).drew
    have d0 := cellK kr a0
    have d1 := cellK kr a1
    have d2 := cellK kr b0
    have d3 := cellK kr b1
    have d4 := cellK kr n4
    go_region_held3 (fun wz => wz.cell? ⟨g1, o1 + j * 2, none⟩ = some (.string xn) ∧ wz.cell? ⟨g1, o1 + j * 2 + 1, none⟩ = some (.int .i64 xi) ∧ wz.cell? ⟨g2, o2 + j * 2, none⟩ = some (.string xn) ∧ wz.cell? ⟨g2, o2 + j * 2 + 1, none⟩ = some (.int .i64 xi) ∧ wz.cell? ⟨NB, 4, none⟩ = some (.slice (some ⟨g2, o2, none⟩) en.length mq))
     (refine ⟨?_, ?_, ?_, ?_, ?_⟩ <;> with_reducible assumption)
     (first | (go_at_call 20; refine (HI2.out _ (HK.out.trans (HKp.out.trans (by (repeat (first | with_reducible assumption | (with_reducible exact Keeps.refl _ _) | (with_reducible refine Keeps.drew ?_) | (with_reducible refine Keeps.drewN ?_ _)))))) xi).mono ?_; rintro e w8 ⟨rfl, hk8⟩; have zk : Keeps NoB wr w8 := Keeps.trans (by (repeat (first | with_reducible assumption | (with_reducible exact Keeps.refl _ _) | (with_reducible refine Keeps.drew ?_) | (with_reducible refine Keeps.drewN ?_ _)))) hk8; have z0 := cellK zk a0; have z1 := cellK zk a1; have z2 := cellK zk b0; have z3 := cellK zk b1; have z4 := cellK zk n4))
    all_goals (go_wp2_with fail; go_meet; exact ⟨by simp, by first | exact zk | exact zk.drew⟩)
   case rest =>
    obtain ⟨rfl, hk8⟩ := hcut
    clear a0 a1 b0 b1 n4
    go_wp2_with fail
    go_roundw
    case rel => exact ⟨j + 1, by omega, by go_num, HKp.out.trans hk8⟩
    case measure => simp [intOf]; omega
  case neg =>
   obtain rfl : j = en.length := by omega
   have hlz : ¬ (en.length : Int) < (en.length : Int) := by omega
   go_wp2_with fail
   go_ret
   exact ⟨rfl, HK.out.trans HKp.out⟩
theorem same_any (h : SmAt w B0 F a d room calls fail ro p c) (deep : Nat) (hd : deep <= 1000) (i : Int) :
  Calls Tryz.prog 20 #[.pointer (some ⟨B0, 0, none⟩), .int .i64 i, .int .i64 i, .int .i64 (deep : Int)] w fun e w' => e = .returned (.bool true) ∧ Keeps NoB w w' := by
 induction deep generalizing w i with
 | zero =>
  by_cases hi : has d i
  ·exact same_round h i hi _ 0 (fun hn => absurd rfl hn) (fun hn => absurd rfl hn)
  ·exact same_none h i hi _
 | succ deep ih =>
  by_cases hi : has d i
  ·exact same_round h i hi _ (deep : Int) (fun _ => by rw [IntKind.wrap_i64]; omega) (fun _ wx kx j => ih (h.on kx) (by omega) j)
  ·exact same_none h i hi _
end
section
variable {B : Nat -> Prop} {w : World} {B0 F a : Nat} {d : Nds} {room calls fail at' mask : Int} {p : Option Addr} {c k : Nat}
theorem Sd.up (h : Sd B w B0 F a p c d room calls fail at' mask k) : Sd B w B0 F a p c d room calls fail at' mask (k + 1) := ⟨h.sd, h.nb, h.bx, h.nh, h.usr, h.m0, h.m1, by have := h.ms; omega, h.c0, by have := h.c1; omega⟩
end
def BgTo (w : World) (room fail mask : Int) : Ending -> World -> Prop := fun e w' =>
 ∃ (B0 F a : Nat) (p : Option Addr) (c : Nat), e = .returned (.pointer (some ⟨B0, 0, none⟩)) ∧ w.heap.size <= B0 ∧ Sd (fun g => g < w.heap.size ∨ g = B0) w' B0 F a p c newD room 0 fail 1 mask 0 ∧ Keeps NoB w w'
theorem usr_new : UsrOk newD 1 := ⟨by decide, .inr (by decide)⟩
theorem l6begun_any (w : World) (room fail mask : Int) (h0 : 0 <= room) (h1 : room <= 9223372036854775807) (hm0 : 0 <= mask) (hm1 : mask <= 511) :
  Calls Tryz.prog 17 #[.int .i64 room, .int .i64 fail, .int .i64 mask] w (BgTo w room fail mask) := by
 have HB := Lib.hid (begin_any w room fail h0 h1)
 have HR4 := Lib.hid (fun wx : World => r4new_any (S := fun g => wx.heap.size <= g) wx room (fun _ h => h))
 have HM := Lib.hid (show 0 <= mask ∧ mask <= 511 from ⟨hm0, hm1⟩)
 unfold refV at HR4
 clear h0 h1 hm0 hm1
 go_enter Tryz.func17, Tryz.ntmps17
 go_upto_region 4 with (go_at_call 43; go_loud (refine HB.out.mono ?_); rintro e w1 ⟨F, a, rfl, FS, k1⟩)
 go_upto_region 5 with fail
 have HX := Lib.hid (Bk.new (Keeps.refl NoB (w1.alloc (.cells #[.pointer (some ⟨F, 0, none⟩), .int .i64 1, .int .i64 mask, .slice none 0 0, .int .i64 0, .int .i64 0, .int .i64 0, .int .i64 0, .int .i64 0] 57))))
 have k2 : Keeps NoB w1 (w1.alloc (.cells #[.pointer (some ⟨F, 0, none⟩), .int .i64 1, .int .i64 mask, .slice none 0 0, .int .i64 0, .int .i64 0, .int .i64 0, .int .i64 0, .int .i64 0] 57)) := (Keeps.refl NoB w1).alloc _
 have HFS := Lib.hid FS
 have HK1 := Lib.hid k1
 have HK2 := Lib.hid k2
 have HR := Lib.hid (HR4.out (w1.alloc (.cells #[.pointer (some ⟨F, 0, none⟩), .int .i64 1, .int .i64 mask, .slice none 0 0, .int .i64 0, .int .i64 0, .int .i64 0, .int .i64 0, .int .i64 0] 57)))
 clear FS k1 k2 HB HR4
 generalize w1.alloc (.cells #[.pointer (some ⟨F, 0, none⟩), .int .i64 1, .int .i64 mask, .slice none 0 0, .int .i64 0, .int .i64 0, .int .i64 0, .int .i64 0, .int .i64 0] 57) = w2 at *
 obtain ⟨B0, hB0⟩ : ∃ B0, w1.heap.size = B0 := ⟨_, rfl⟩
 rw [hB0] at HX ⊢
 have HB0 := Lib.hid hB0
 clear hB0
 go_upto_region 6 with (go_at_call 45; go_loud (refine HR.out.mono ?_); rintro e w3 ⟨p, c, rfl, hr, k3⟩; have HX3 := Lib.hid (HX.out.on k3); have x3 := HX3.out.cell 3 _ rfl; have x4 := HX3.out.cell 4 _ rfl; have x5 := HX3.out.cell 5 _ rfl; have x6 := HX3.out.cell 6 _ rfl; have xl := HX3.out.lt; have xf := HX3.out.fz)
 have HS3 : Hid (SD (fun g => g < w.heap.size ∨ g = B0) w3 F a newD room 0 fail p c newD) := Lib.hid (by
  obtain ⟨N1, n1, n2, n3⟩ := HFS.out.wider (HK2.out.trans k3)
  have e0 := HB0.out
  have e1 := HK1.out.size
  have e2 := HX.out.lt
  have e3 := k3.size
  exact ⟨N1, fun g hg => hg.elim (n1 g) (fun e => n2 g (by omega) (by omega)), n3, hr.keepS (Keeps.refl NoB w3) (fun _ _ _ h => h) (fun g hg hl => ⟨n2 g (by omega) hl, fun hh => hh.elim (fun h => by omega) (fun h => by omega)⟩)⟩)
 have HK3 := Lib.hid (HK1.out.trans (HK2.out.trans k3))
 have HGe := Lib.hid (show w.heap.size <= B0 by have := HB0.out; have := HK1.out.size; omega)
 have x7 := HX3.out.cell 7 _ rfl
 have x8 := HX3.out.cell 8 _ rfl
 clear hr k3 HR HK1 HK2 HFS HB0 HX
 go_wp2_with fail
 go_ret
 have kp := fun (wx : World) => ((kput4x wx B0 (.slice p newD.length c) (.int .i64 room) (.int .i64 0) (.int .i64 fail)).setCell (p := ⟨B0, 7, none⟩) (.inl (show B0 = B0 from rfl)) (.int .i64 1)).setCell (p := ⟨B0, 8, none⟩) (.inl (show B0 = B0 from rfl)) (.int .i64 mask)
 exact ⟨B0, F, a, p, c, rfl, HGe.out, ⟨HS3.out.turn (kp w3) (fun g _ hg => .inr hg), .inr rfl, (((((HX3.out.put 3 _).put 4 _).put 5 _).put 6 _).put 7 _).put 8 _, nh_new, usr_new, HM.out.1, HM.out.2, by rw [mass_new]; decide, by decide, by decide⟩, HK3.out.step (kp w3) (fun g hg => .inr (by have := HGe.out; rw [show g = B0 from hg]; exact this))⟩
end Go.Proofs.YtijbhmledmnifaaGreatDoor
namespace Go.Proofs.YtijbhmledmnifaaGreatDoor
theorem into_dir {d : Nds} {i : Int} (h : intoErr d i = 0) : folderErr d i = 0 := by
 unfold intoErr at h
 exact Classical.byContradiction fun hf => by rw [if_pos hf] at h; exact hf h
section
variable {d : Nds} {up : Int -> Int} {at' : Int} {x : ByteArray} {n : Nat}
theorem step_look (hin : intoErr d at' = 0) (h1 : ¬ x = dotB) (h2 : ¬ x = dotsB) (h3 : x.size <= 255) {fl : Bool} {k : Int} (hg : entGet (nd d at').ents x = some k) :
  stepR d up at' x fl n = if fl = false then ⟨⟨k, at', x⟩, ⟨#[]⟩, 0, n⟩ else if (nd d k).kind ≠ 3 then ⟨⟨k, at', x⟩, ⟨#[]⟩, 0, n⟩ else if 40 < n + 1 then ⟨.no, ⟨#[]⟩, 17, n + 1⟩ else ⟨⟨k, at', x⟩, dataOf d k, 0, n + 1⟩ := by
 have hf := into_dir hin
 have hl : lookErr d at' x = 0 := by unfold lookErr; rw [if_neg (by rw [hf]; simp), hg]; rfl
 have ho : lookOf d at' x = k := by unfold lookOf; rw [if_neg (by rw [hf]; simp), hg]; rfl
 unfold stepR
 rw [if_neg (by rw [hin]; simp), if_neg h1, if_neg h2, if_neg (by omega), hl, ho]
 cases fl
 ·simp
 ·rw [if_neg (by simp)]
  simp
theorem step_none (hin : intoErr d at' = 0) (h1 : ¬ x = dotB) (h2 : ¬ x = dotsB) (h3 : x.size <= 255) {fl : Bool} (hg : entGet (nd d at').ents x = none) :
  stepR d up at' x fl n = ⟨⟨0, at', x⟩, ⟨#[]⟩, 0, n⟩ := by
 have hf := into_dir hin
 have hl : lookErr d at' x ≠ 0 := by unfold lookErr; rw [if_neg (by rw [hf]; simp), hg]; simp
 have ho : lookOf d at' x = 0 := by unfold lookOf; rw [if_neg (by rw [hf]; simp), hg]; rfl
 unfold stepR
 rw [if_neg (by rw [hin]; simp), if_neg h1, if_neg h2, if_neg (by omega), if_pos (.inl hl), ho]
theorem scan_one {slash follow : Bool} {q : StepR} {p : Plc} (hs : stepR d up at' x (slash || follow) n = q) :
  scan d up slash follow [x] at' n p = if q.e ≠ 0 then .err q.e else if q.t ≠ ⟨#[]⟩ then .again at' (restB q.t [] slash) q.n else .fin q.p := by
 unfold scan
 simp only [List.isEmpty_nil, Bool.not_true, Bool.false_or, hs]
 by_cases h1 : q.e ≠ 0
 ·rw [if_pos h1, if_pos h1]
 rw [if_neg h1, if_neg h1]
 by_cases h2 : q.t ≠ ⟨#[]⟩
 ·rw [if_pos h2, if_pos h2]
 rw [if_neg h2, if_neg h2, if_neg (fun h => h.2 rfl)]
 rfl
end
-- the document's example
section
variable {d : Nds} {room kind m : Int} {s : ByteArray} {p : Plc}
theorem made_ok (hI : DInv d) (hcl : NoGarb d) (hne : p.dir ≠ d.length) (he : makeErr d room kind m s = 0) (hE : enterErr (d ++ [newNd kind m s]) room p.dir p.name d.length = 0) :
  (madeR d room p kind m s).2 = 0 ∧ (madeR d room p kind m s).1.length = d.length + 1 ∧
   ∀ j, nd (madeR d room p kind m s).1 j = if j = d.length then ⟨kind, m, 0, s, []⟩ else if j = p.dir then (nd d p.dir).setEnts (entPut (nd d p.dir).ents p.name d.length) else nd d j := by
 obtain ⟨k1, k2⟩ := makeErr_kind he
 have ht := hI.two
 unfold madeR entrR
 rw [if_neg (by rw [he]; simp)]
 simp only [hE, true_and]
 obtain ⟨pn, at', nm⟩ := p
 simp only at hne hE ⊢
 generalize hd1 : d ++ [newNd kind m s] = d1 at *
 have hn1 : ∀ j, nd d1 j = if j = d.length then newNd kind m s else nd d j := fun j => by rw [<- hd1, nd_append]
 have hl1 : d1.length = d.length + 1 := by rw [<- hd1]; simp
 obtain ⟨hf, hp⟩ := enterErr_folder hE
 have hat1 := (folderErr_has hf).1
 have hd2 : enterD d1 room at' nm d.length = enterTo d1 at' nm d.length := by unfold enterD; rw [if_pos hE]
 rw [hd2]
 have hn2 : ∀ j, nd (enterTo d1 at' nm d.length) j = if j = at' then (nd d at').setEnts (entPut (nd d at').ents nm d.length) else nd d1 j := fun j => by
  unfold enterTo
  rw [nd_setE hat1, hn1 at', if_neg hne]
 have hl2 : (enterTo d1 at' nm d.length).length = d.length + 1 := by unfold enterTo; rw [length_setE, hl1]
 have hnid : nd (enterTo d1 at' nm d.length) d.length = newNd kind m s := by rw [hn2, if_neg (fun e => hne e.symm), hn1, if_pos rfl]
 have hid : has (enterTo d1 at' nm d.length) d.length := by unfold has; rw [hnid]; show kind ≠ 0; omega
 have hr : relErr (enterTo d1 at' nm d.length) d.length = 0 := relErr_ok hid (by rw [hnid]; show (1 : Int) ≠ 0; decide)
 have hn3 : ∀ j, nd (relTo (enterTo d1 at' nm d.length) d.length) j = if j = d.length then ⟨kind, m, 0, s, []⟩ else if j = at' then (nd d at').setEnts (entPut (nd d at').ents nm d.length) else nd d j := fun j => by
  rw [nd_relTo hid, hnid, hn2, hn1]
  split
  ·rfl
  ·split
   ·rfl
   ·rfl
 have hhas : entHas (nd d at').ents nm = false := by
  rw [hn1, if_neg hne] at hp
  exact (putErr_zero.1 hp).2
 have hng : NoGarb (relTo (enterTo d1 at' nm d.length) d.length) := by
  rintro j ⟨h1, h2, h3⟩
  have hc : cnt (relTo (enterTo d1 at' nm d.length) d.length) j = 0 := by unfold links at h2; omega
  have hj1 : j ≠ 1 := fun e => by unfold links at h2; rw [if_pos e] at h2; omega
  have hno : ∀ i e, e ∈ (nd (relTo (enterTo d1 at' nm d.length) d.length) i).ents -> e.2 ≠ j := fun i e hm h4 => by
   have := cnt_pos.2 ⟨i, e, hm, h4⟩
   omega
  by_cases hj : j = d.length
  ·subst hj
   refine hno at' (nm, d.length) ?_ rfl
   rw [hn3, if_neg hne, if_pos rfl]
   exact (mem_entPut hhas _).2 (.inr rfl)
  ·have hcd : cnt d j = 0 := Nat.eq_zero_of_not_pos fun hpos => by
    obtain ⟨i, e, hm, h4⟩ := cnt_pos.1 hpos
    refine hno i e ?_ h4
    have hi : i ≠ d.length := fun e1 => by
     rw [e1, nd_gone (by omega)] at hm
     cases hm
    rw [hn3, if_neg hi]
    split
    ·next e1 => rw [e1] at hm; exact (mem_entPut hhas _).2 (.inl hm)
    ·exact hm
   have hho : (nd d j).holds = 0 := by
    rw [hn3, if_neg hj] at h3
    split at h3
    ·next e1 => rw [e1]; exact h3
    ·exact h3
   refine hcl j ⟨?_, by unfold links; rw [if_neg hj1, hcd], hho⟩
   unfold has at h1 ⊢
   rw [hn3, if_neg hj] at h1
   split at h1
   ·next e1 => rw [e1]; exact h1
   ·exact h1
 have hres : relD (enterTo d1 at' nm d.length) d.length = relTo (enterTo d1 at' nm d.length) d.length := by
  unfold relD
  rw [if_pos hr, gc_same hng]
 rw [hres]
 refine ⟨?_, hn3⟩
 unfold relTo
 rw [upd_length, hl2]
theorem made_go (hI : DInv d) {at' : Int} {nm : ByteArray} (hk1 : 1 <= kind) (hk3 : kind <= 3) (hm : okMode m = true) (hd : kind = 2 -> s.size = 0) (hz : s.size <= 4194304)
  (hn : okName nm = true) (hf : folderErr d at' = 0) (hno : entHas (nd d at').ents nm = false) (hc : count d < 65536) (hu : (used d : Int) + s.size + nm.size <= room) :
  at' ≠ d.length ∧ makeErr d room kind m s = 0 ∧ enterErr (d ++ [newNd kind m s]) room at' nm d.length = 0 := by
 have ht := hI.two
 have hfh := folderErr_has hf
 have hr := has_range hfh.1
 have hne : at' ≠ d.length := by omega
 have he : makeErr d room kind m s = 0 := by
  unfold makeErr
  rw [if_neg (by omega), if_neg (by omega), if_neg (fun h => h.2 (hd h.1)), if_neg (by rw [hm]; simp), if_neg (by omega), if_neg (by omega), if_neg (by omega)]
 refine ⟨hne, he, ?_⟩
 have hn1 : nd (d ++ [newNd kind m s]) d.length = newNd kind m s := by rw [nd_append, if_pos rfl]
 have hna : nd (d ++ [newNd kind m s]) at' = nd d at' := by rw [nd_append, if_neg hne]
 have hlk : links (d ++ [newNd kind m s]) d.length = 0 := by
  rw [links_append rfl]
  have := cnt_none hI (not_has_length d)
  unfold links
  rw [this, if_neg (by omega)]
 have hu1 : used (d ++ [newNd kind m s]) = used d + s.size := by rw [used_append]; rfl
 have hf1 : folderErr (d ++ [newNd kind m s]) at' = 0 := by
  unfold folderErr at hf ⊢
  rw [hna]
  exact hf
 unfold enterErr
 rw [if_neg (by rw [hf1]; simp), hn1, hlk, hna, if_neg (by show ¬ kind = 0; omega), if_neg (by simp), if_neg (by decide), if_neg (by rw [putErr_zero.2 ⟨hn, hno⟩]; simp), if_neg (by rw [hu1]; omega)]
theorem fresh_ok {mask flags : Int} {t : ByteArray} (h4 : flg flags 4 = true) (hs : endS t = false) (hmy : mayE d p.dir 128 = 0) (hne : p.dir ≠ d.length) (he : makeErr d room 1 (freshM m mask) ⟨#[]⟩ = 0)
  (hE : enterErr (d ++ [newNd 1 (freshM m mask) ⟨#[]⟩]) room p.dir p.name d.length = 0) :
  (freshR d room mask p t flags m).2 = ((d.length : Int), 0) ∧ (freshR d room mask p t flags m).1.length = d.length + 1 ∧
   ∀ j, nd (freshR d room mask p t flags m).1 j = if j = d.length then ⟨1, freshM m mask, 1, ⟨#[]⟩, []⟩ else if j = p.dir then (nd d p.dir).setEnts (entPut (nd d p.dir).ents p.name d.length) else nd d j := by
 unfold freshR
 rw [if_neg (by rw [h4]; simp), if_neg (by rw [hs]; simp), if_neg (by rw [hmy]; simp), if_neg (by rw [he]; simp), if_neg (by rw [hE]; simp)]
 obtain ⟨hf, _⟩ := enterErr_folder hE
 have hat1 := (folderErr_has hf).1
 have hn1 : ∀ j, nd (d ++ [newNd 1 (freshM m mask) ⟨#[]⟩]) j = if j = d.length then newNd 1 (freshM m mask) ⟨#[]⟩ else nd d j := fun j => by rw [nd_append]
 have hd2 : enterD (d ++ [newNd 1 (freshM m mask) ⟨#[]⟩]) room p.dir p.name d.length = enterTo (d ++ [newNd 1 (freshM m mask) ⟨#[]⟩]) p.dir p.name d.length := by unfold enterD; rw [if_pos hE]
 simp only
 rw [hd2]
 refine ⟨by first | rfl | trivial, by unfold enterTo; rw [length_setE]; simp, fun j => ?_⟩
 unfold enterTo
 rw [nd_setE hat1, hn1 p.dir, if_neg hne, hn1]
 by_cases h1 : j = p.dir
 ·rw [if_pos h1, if_neg (fun e => hne (h1.symm.trans e)), if_pos h1]
 ·rw [if_neg h1, if_neg h1]
  rfl
end
section
variable {d : Nds} {up : Int -> Int} {s a b : ByteArray} {follow : Bool}
theorem find_1 (hin : intoErr d 1 = 0) (hp : pathErr s = 0) (hl : prts s = [a]) (hs : endS s = false) (ha : absB s = false) (h1 : ¬ a = dotB) (h2 : ¬ a = dotsB) (h3 : a.size <= 255) (hk : ∀ k, entGet (nd d 1).ents a = some k -> (nd d k).kind ≠ 3) (fuel n : Nat) :
  findR d up follow (fuel + 1) 1 s n = (⟨(entGet (nd d 1).ents a).getD 0, 1, a⟩, 0) := by
 rw [findR, if_neg (by rw [hp]; simp), hl, if_neg (by simp), hs, ha]
 simp only [Bool.false_eq_true, if_false]
 cases hg : entGet (nd d 1).ents a with
 | none =>
  rw [scan_one (slash := false) (follow := follow) (step_none (up := up) (n := n) hin h1 h2 h3 hg), if_neg (by simp), if_neg (by simp)]
  simp [endR]
 | some k =>
  have hst := step_look (up := up) (n := n) (fl := follow) hin h1 h2 h3 hg
  have hq : stepR d up 1 a (false || follow) n = ⟨⟨k, 1, a⟩, ⟨#[]⟩, 0, n⟩ := by
   rw [Bool.false_or, hst]
   cases follow
   ·simp
   ·simp [hk k hg]
  rw [scan_one (slash := false) (follow := follow) hq, if_neg (by simp), if_neg (by simp)]
  simp [endR]
theorem find_2 (hin : intoErr d 1 = 0) (hp : pathErr s = 0) (hl : prts s = [a, b]) (hs : endS s = false) (ha : absB s = false) (h1 : ¬ a = dotB) (h2 : ¬ a = dotsB) (h3 : a.size <= 255) (g1 : ¬ b = dotB) (g2 : ¬ b = dotsB) (g3 : b.size <= 255)
  {k : Int} (hg : entGet (nd d 1).ents a = some k) (hk0 : k ≠ 0) (hk2 : (nd d k).kind ≠ 3) (hin2 : intoErr d k = 0) (hk : ∀ j, entGet (nd d k).ents b = some j -> (nd d j).kind ≠ 3) (fuel n : Nat) :
  findR d up follow (fuel + 1) 1 s n = (⟨(entGet (nd d k).ents b).getD 0, k, b⟩, 0) := by
 rw [findR, if_neg (by rw [hp]; simp), hl, if_neg (by simp), hs, ha]
 simp only [Bool.false_eq_true, if_false]
 have hq : ∀ fl, stepR d up 1 a fl n = ⟨⟨k, 1, a⟩, ⟨#[]⟩, 0, n⟩ := fun fl => by
  rw [step_look hin h1 h2 h3 hg]
  cases fl
  ·simp
  ·simp [hk2]
 rw [scan]
 simp only [hq]
 rw [if_neg (by simp), if_neg (by simp), if_neg (fun h => hk0 h.1)]
 cases hg2 : entGet (nd d k).ents b with
 | none =>
  rw [scan_one (slash := false) (follow := follow) (step_none (up := up) (n := n) hin2 g1 g2 g3 hg2), if_neg (by simp), if_neg (by simp)]
  simp [endR]
 | some j =>
  have hst := step_look (up := up) (n := n) (fl := follow) hin2 g1 g2 g3 hg2
  have hq2 : stepR d up k b (false || follow) n = ⟨⟨j, k, b⟩, ⟨#[]⟩, 0, n⟩ := by
   rw [Bool.false_or, hst]
   cases follow
   ·simp
   ·simp [hk j hg2]
  rw [scan_one (slash := false) (follow := follow) hq2, if_neg (by simp), if_neg (by simp)]
  simp [endR]
end
-- the document's example
theorem anc6_a : (mkdirR newD 100 1 18 ⟨#[100]⟩ 511).2 = 0 ∧ (mkdirR newD 100 1 18 ⟨#[100]⟩ 511).1.length = 3 ∧
  ∀ j, nd (mkdirR newD 100 1 18 ⟨#[100]⟩ 511).1 j = if j = 2 then ⟨2, 493, 0, ⟨#[]⟩, []⟩ else if j = 1 then ⟨2, 493, 0, ⟨#[]⟩, [(⟨#[100]⟩, 2)]⟩ else Nd.gone := by
 have n1 : nd newD 1 = rootNd := by rw [nd_new, if_pos rfl]
 have hin : intoErr newD 1 = 0 := by unfold intoErr folderErr; rw [n1]; decide
 have hf : fndR newD 1 ⟨#[100]⟩ false = (⟨0, 1, ⟨#[100]⟩⟩, 0) := by
  have := find_1 (d := newD) (up := upC newD) (s := ⟨#[100]⟩) (a := ⟨#[100]⟩) (follow := false) hin (by decide) (by decide) (by decide) (by decide) (by decide) (by decide) (by decide) (fun k hk => by rw [n1] at hk; cases hk) 40 0
  rw [n1] at this
  exact this
 have hmy : mayE newD 1 128 = 0 := by unfold mayE; rw [if_neg (by rw [has_new]; simp), n1]; decide
 have hfr : freeR newD 1 ⟨#[100]⟩ true = (⟨0, 1, ⟨#[100]⟩⟩, 0) := by
  unfold freeR
  rw [hf, if_neg (by simp), if_neg (by simp), if_neg (by simp), hmy]
 obtain ⟨g1, g2, g3⟩ := made_go (d := newD) (room := 100) (kind := 2) (m := freshM 511 18) (s := ⟨#[]⟩) (at' := 1) (nm := ⟨#[100]⟩) inv_new (by decide) (by decide) (by decide) (by decide) (by decide) (by decide)
  (by unfold folderErr; rw [n1]; decide) (by rw [n1]; decide) (by rw [count_new]; decide) (by rw [used_new]; decide)
 obtain ⟨h1, h2, h3⟩ := made_ok (p := ⟨0, 1, ⟨#[100]⟩⟩) inv_new noGarb_new g1 g2 g3
 unfold mkdirR
 rw [hfr, if_neg (by simp)]
 refine ⟨h1, h2, fun j => ?_⟩
 rw [h3]
 show (if j = ((newD.length : Nat) : Int) then _ else _) = _
 by_cases j2 : j = 2
 ·rw [if_pos (by rw [j2]; rfl), if_pos j2]
  exact congrArg (fun x => Nd.mk 2 x 0 ⟨#[]⟩ []) (by decide : freshM 511 18 = 493)
 rw [if_neg (by simpa [newD] using j2), if_neg j2]
 by_cases j1 : j = 1
 ·rw [if_pos j1, if_pos j1, n1]
  exact congrArg (Nd.mk 2 493 0 ⟨#[]⟩) (by decide : entPut [] ⟨#[100]⟩ ((newD.length : Nat) : Int) = [((⟨#[100]⟩ : ByteArray), (2 : Int))])
 ·rw [if_neg j1, if_neg j1, nd_new, if_neg j1]
theorem anc6_b {d : Nds} (hI : DInv d) (hs : smallD d) (hl : d.length = 3) (hN : ∀ j, nd d j = if j = 2 then ⟨2, 493, 0, ⟨#[]⟩, []⟩ else if j = 1 then ⟨2, 493, 0, ⟨#[]⟩, [(⟨#[100]⟩, 2)]⟩ else Nd.gone) :
  (openR d 100 1 18 ⟨#[100, 47, 120]⟩ 6 438).2 = (3, 0) ∧
   ∀ j, nd (openR d 100 1 18 ⟨#[100, 47, 120]⟩ 6 438).1 j = if j = 3 then ⟨1, 420, 1, ⟨#[]⟩, []⟩ else if j = 2 then ⟨2, 493, 0, ⟨#[]⟩, [(⟨#[120]⟩, 3)]⟩ else if j = 1 then ⟨2, 493, 0, ⟨#[]⟩, [(⟨#[100]⟩, 2)]⟩ else Nd.gone := by
 have n1 := hN 1
 rw [if_neg (by decide), if_pos rfl] at n1
 have n2 := hN 2
 rw [if_pos rfl] at n2
 have hin : intoErr d 1 = 0 := by unfold intoErr folderErr; rw [n1]; decide
 have hin2 : intoErr d 2 = 0 := by unfold intoErr folderErr; rw [n2]; decide
 have hal : aloneF 6 = false := by decide
 have hf : fndR d 1 ⟨#[100, 47, 120]⟩ true = (⟨0, 2, ⟨#[120]⟩⟩, 0) := by
  have := find_2 (d := d) (up := upC d) (s := ⟨#[100, 47, 120]⟩) (a := ⟨#[100]⟩) (b := ⟨#[120]⟩) (follow := true) hin (by decide) (by decide) (by decide) (by decide) (by decide) (by decide) (by decide) (by decide) (by decide) (by decide) (k := 2) (by rw [n1]; decide) (by decide) (by rw [n2]; decide) hin2 (fun k hk => by rw [n2] at hk; cases hk) 40 0
  rw [n2] at this
  exact this
 have hmy : mayE d 2 128 = 0 := by unfold mayE; rw [if_neg (by unfold has; rw [n2]; decide), n2]; decide
 have hd : d = [Nd.gone, ⟨2, 493, 0, ⟨#[]⟩, [(⟨#[100]⟩, 2)]⟩, ⟨2, 493, 0, ⟨#[]⟩, []⟩] := by
  refine Nds.ext hl fun j => ?_
  rw [hN]
  by_cases j0 : 0 <= j
  ·obtain ⟨n, rfl⟩ := Int.eq_ofNat_of_zero_le j0
   match n with
   | 0 => rfl
   | 1 => rfl
   | 2 => rfl
   | n + 3 =>
    rw [if_neg (by omega), if_neg (by omega), nd_gone (by simp; omega)]
  ·rw [if_neg (by omega), if_neg (by omega), nd_gone (by omega)]
 have hu : used d = 1 := by rw [hd]; decide
 have hc : count d = 2 := by rw [hd]; decide
 obtain ⟨g1, g2, g3⟩ := made_go (d := d) (room := 100) (kind := 1) (m := freshM 438 18) (s := ⟨#[]⟩) (at' := 2) (nm := ⟨#[120]⟩) hI (by decide) (by decide) (by decide) (by decide) (by decide) (by decide)
  (by unfold folderErr; rw [n2]; decide) (by rw [n2]; decide) (by rw [hc]; decide) (by rw [hu]; decide)
 obtain ⟨h1, h2, h3⟩ := fresh_ok (d := d) (room := 100) (p := ⟨0, 2, ⟨#[120]⟩⟩) (m := 438) (mask := 18) (flags := 6) (t := ⟨#[100, 47, 120]⟩) (by decide) (by decide) hmy g1 g2 g3
 unfold openR
 rw [hal]
 simp only [Bool.not_false]
 rw [hf, if_neg (by simp), if_pos rfl]
 refine ⟨by rw [h1, hl]; rfl, fun j => ?_⟩
 rw [h3, hl]
 by_cases j3 : j = 3
 ·rw [if_pos (by rw [j3]; rfl), if_pos j3]
  exact congrArg (fun x => Nd.mk 1 x 1 ⟨#[]⟩ []) (by decide : freshM 438 18 = 420)
 rw [if_neg (by simpa using j3), if_neg j3]
 by_cases j2 : j = 2
 ·rw [if_pos j2, if_pos j2, n2]
  rfl
 ·rw [if_neg j2, if_neg j2, hN, if_neg j2]
theorem anc6_c {d : Nds} (hN : ∀ j, nd d j = if j = 3 then ⟨1, 420, 1, ⟨#[]⟩, []⟩ else if j = 2 then ⟨2, 493, 0, ⟨#[]⟩, [(⟨#[120]⟩, 3)]⟩ else if j = 1 then ⟨2, 493, 0, ⟨#[]⟩, [(⟨#[100]⟩, 2)]⟩ else Nd.gone) :
  thrR d 1 ⟨#[100]⟩ true = (⟨2, 1, ⟨#[100]⟩⟩, 0) ∧ thrR d 1 ⟨#[100, 47, 120]⟩ true = (⟨3, 2, ⟨#[120]⟩⟩, 0) := by
 have n1 := hN 1
 rw [if_neg (by decide), if_neg (by decide), if_pos rfl] at n1
 have n2 := hN 2
 rw [if_neg (by decide), if_pos rfl] at n2
 have n3 := hN 3
 rw [if_pos rfl] at n3
 have hin : intoErr d 1 = 0 := by unfold intoErr folderErr; rw [n1]; decide
 have hin2 : intoErr d 2 = 0 := by unfold intoErr folderErr; rw [n2]; decide
 have hf1 : fndR d 1 ⟨#[100]⟩ true = (⟨2, 1, ⟨#[100]⟩⟩, 0) := by
  have := find_1 (d := d) (up := upC d) (s := ⟨#[100]⟩) (a := ⟨#[100]⟩) (follow := true) hin (by decide) (by decide) (by decide) (by decide) (by decide) (by decide) (by decide) (fun k hk => by
   rw [n1] at hk
   have : k = 2 := (Option.some.inj ((show entGet [((⟨#[100]⟩ : ByteArray), (2 : Int))] ⟨#[100]⟩ = some 2 by decide).symm.trans hk)).symm
   rw [this, n2]; decide) 40 0
  rw [n1] at this
  exact this
 have hf2 : fndR d 1 ⟨#[100, 47, 120]⟩ true = (⟨3, 2, ⟨#[120]⟩⟩, 0) := by
  have := find_2 (d := d) (up := upC d) (s := ⟨#[100, 47, 120]⟩) (a := ⟨#[100]⟩) (b := ⟨#[120]⟩) (follow := true) hin (by decide) (by decide) (by decide) (by decide) (by decide) (by decide) (by decide) (by decide) (by decide) (by decide) (k := 2) (by rw [n1]; decide) (by decide) (by rw [n2]; decide) hin2 (fun k hk => by
   rw [n2] at hk
   have : k = 3 := (Option.some.inj ((show entGet [((⟨#[120]⟩ : ByteArray), (3 : Int))] ⟨#[120]⟩ = some 3 by decide).symm.trans hk)).symm
   rw [this, n3]; decide) 40 0
  rw [n2] at this
  exact this
 unfold thrR
 rw [hf1, hf2]
 unfold thereR
 exact ⟨by rw [if_neg (by simp), if_neg (by simp)], by rw [if_neg (by simp), if_neg (by simp)]⟩
end Go.Proofs.YtijbhmledmnifaaGreatDoor
set_option maxHeartbeats 4000000
namespace Go.Proofs.YtijbhmledmnifaaGreatDoor
open Go Go.RowKit
theorem anchor6_any (w : World) : Calls Tryz.prog 15 #[] w fun e w' => e = .returned (.bool true) ∧ Keeps NoB w w' := by
 have HB := Lib.hid (begin_any w 100 (-1) (by decide) (by decide))
 go_enter Tryz.func15, Tryz.ntmps15
 go_upto_region 2 with (go_at_call 43; go_loud (refine HB.out.mono ?_); rintro e w1 ⟨F, a, rfl, FS, k1⟩)
 have FX1 := Lib.hid (FSx.new FS k1)
 clear HB FS k1
 go_upto_region 5 with fail
 have HW := Lib.hid (Bx.new (Keeps.refl NoB (w1.alloc (.cells #[.int .i64 1, .int .i64 18] 43))))
 have FX2 := Lib.hid (FX1.out.more (P' := fun g => g = w1.heap.size) ((Keeps.refl NoB w1).alloc (.cells #[.int .i64 1, .int .i64 18] 43)) (fun g hg => .inr ⟨by omega, by rw [hg]; simp⟩))
 clear FX1
 generalize w1.alloc (.cells #[.int .i64 1, .int .i64 18] 43) = w2 at *
 generalize w1.heap.size = WB at *
 -- Mkdir
 have HM := Lib.hid (FX2.out.call fun N h => mkdir_any h (by decide) (by decide) (by rw [mass_new]; decide) 1 18 ⟨#[100]⟩ 511 (by decide))
 have e1 : orFail 0 (-1) newD (mkdirR newD 100 1 18 ⟨#[100]⟩ 511) = mkdirR newD 100 1 18 ⟨#[100]⟩ 511 := by unfold orFail callE; rw [if_neg (by decide)]
 obtain ⟨a1, a2, a3⟩ := anc6_a
 rw [e1, a1] at HM
 have HMs := Lib.hid (mkdirR_mass (d := newD) (room := 100) 1 18 ⟨#[100]⟩ 511)
 rw [mass_new] at HMs
 have HD : Hid ((mkdirR newD 100 1 18 ⟨#[100]⟩ 511).1.length = 3 ∧ _) := ⟨a2, a3⟩
 generalize (mkdirR newD 100 1 18 ⟨#[100]⟩ 511).1 = dA at *
 clear e1 a1 a2 a3
 have b0 := HW.out.cell 0 _ rfl
 have b1 := HW.out.cell 1 _ rfl
 go_upto_region 6 with (go_at_call 44; go_loud (refine HM.out.mono ?_); rintro e w3 ⟨rfl, FX, k⟩)
 have HW3 := Lib.hid (FX2.out.kept HW.out k rfl)
 have FX3 := Lib.hid FX
 clear HM FX k b0 b1 HW FX2
 -- Open
 have hmA : mass dA <= 5 := HMs.out
 obtain ⟨hD2, hD3⟩ := HD.out
 obtain ⟨c1, c2⟩ := anc6_b FX3.out.inv FX3.out.small hD2 hD3
 have HO := Lib.hid (FX3.out.call fun N h => open_any h (by decide) (by decide) (by omega) 1 18 ⟨#[100, 47, 120]⟩ 6 438 (by decide))
 have e1 : openF (0 + 1) (-1) dA 100 1 18 ⟨#[100, 47, 120]⟩ 6 438 = openR dA 100 1 18 ⟨#[100, 47, 120]⟩ 6 438 := by unfold openF callE; rw [if_neg (fun h => h.2 (by decide))]
 rw [e1, c1] at HO
 have HD2 := Lib.hid (anc6_c c2)
 have HD3 := Lib.hid c2
 generalize (openR dA 100 1 18 ⟨#[100, 47, 120]⟩ 6 438).1 = dB at *
 clear e1 c1 c2 hmA hD2 hD3 HD HMs
 have b0 := HW3.out.cell 0 _ rfl
 have b1 := HW3.out.cell 1 _ rfl
 go_upto_region 7 with (go_at_call 57; go_loud (refine HO.out.mono ?_); rintro e w4 ⟨rfl, FX, k⟩)
 have HW4 := Lib.hid (FX3.out.kept HW3.out k rfl)
 have FX4 := Lib.hid FX
 clear HO FX k b0 b1 HW3 FX3
 -- Stat
 have n2 : nd dB 2 = ⟨2, 493, 0, ⟨#[]⟩, [(⟨#[120]⟩, 3)]⟩ := by rw [HD3.out]; rfl
 have n3 : nd dB 3 = ⟨1, 420, 1, ⟨#[]⟩, []⟩ := by rw [HD3.out]; rfl
 have v2 : statV dB (⟨2, 1, ⟨#[100]⟩⟩, 0) = .agg #[.int .i64 2, .int .i64 493, .int .i64 (links dB 2), .int .i64 0, .int .i64 1] := by unfold statV infoAt infoV sizeOf4; rw [if_neg (by simp), if_pos (by unfold has; rw [n2]; decide), n2]; rfl
 have v3 : statV dB (⟨3, 2, ⟨#[120]⟩⟩, 0) = .agg #[.int .i64 1, .int .i64 420, .int .i64 (links dB 3), .int .i64 1, .int .i64 0] := by unfold statV infoAt infoV sizeOf4; rw [if_neg (by simp), if_pos (by unfold has; rw [n3]; decide), n3]; rfl
 have s2 : statE dB (⟨2, 1, ⟨#[100]⟩⟩, 0) = 0 := by unfold statE; rw [if_neg (by simp), if_pos (by unfold has; rw [n2]; decide)]
 have s3 : statE dB (⟨3, 2, ⟨#[120]⟩⟩, 0) = 0 := by unfold statE; rw [if_neg (by simp), if_pos (by unfold has; rw [n3]; decide)]
 obtain ⟨t2, t3⟩ := HD2.out
 have HS2 := Lib.hid (fun (wx : World) (k : Keeps NoB w4 wx) => (FX4.out.on k).asks fun N h => stat_any h 1 18 ⟨#[100]⟩ true (by decide))
 have HS3 := Lib.hid (fun (wx : World) (k : Keeps NoB w4 wx) => (FX4.out.on k).asks fun N h => stat_any h 1 18 ⟨#[100, 47, 120]⟩ true (by decide))
 rw [t2, v2, s2] at HS2
 rw [t3, v3, s3] at HS3
 generalize ((links dB 2 : Nat) : Int) = l2 at *
 generalize ((links dB 3 : Nat) : Int) = l3 at *
 clear n2 n3 v2 v3 s2 s3 t2 t3 HD2 HD3
 have b0 := HW4.out.cell 0 _ rfl
 have b1 := HW4.out.cell 1 _ rfl
 have HK := Lib.hid FX4.out.keeps
 go_upto_region 8 with (go_at_call 22; go_loud (refine (HS2.out _ (Keeps.refl _ _)).mono ?_); rintro e w5 ⟨rfl, k5⟩)
 have k6 : Keeps NoB w4 (w5.alloc (.cells #[.int .i64 2, .int .i64 493, .int .i64 l2, .int .i64 0, .int .i64 1] 64)) := k5.alloc _
 have HW6 := Lib.hid (HW4.out.on k6)
 have HI := Lib.hid (Bx.new (Keeps.refl NoB (w5.alloc (.cells #[.int .i64 2, .int .i64 493, .int .i64 l2, .int .i64 0, .int .i64 1] 64))))
 clear b0 b1 HS2 k5
 generalize w5.alloc (.cells #[.int .i64 2, .int .i64 493, .int .i64 l2, .int .i64 0, .int .i64 1] 64) = w6 at *
 generalize w5.heap.size = IB at *
 have b0 := HW6.out.cell 0 _ rfl
 have b1 := HW6.out.cell 1 _ rfl
 go_upto_region 9 with (go_at_call 22; go_loud (refine (HS3.out _ k6).mono ?_); rintro e w7 ⟨rfl, k7⟩)
 have k8 : Keeps NoB w6 (w7.alloc (.cells #[.int .i64 1, .int .i64 420, .int .i64 l3, .int .i64 1, .int .i64 0] 64)) := k7.alloc _
 have HI2 := Lib.hid (HI.out.on k8)
 have HJ := Lib.hid (Bx.new (Keeps.refl NoB (w7.alloc (.cells #[.int .i64 1, .int .i64 420, .int .i64 l3, .int .i64 1, .int .i64 0] 64))))
 clear b0 b1 HS3 k7 HI HW6
 generalize w7.alloc (.cells #[.int .i64 1, .int .i64 420, .int .i64 l3, .int .i64 1, .int .i64 0] 64) = w8 at *
 generalize w7.heap.size = JB at *
 have i1 := HI2.out.cell 1 _ rfl
 have j1 := HJ.out.cell 1 _ rfl
 go_wp2_with fail
 go_ret
 exact ⟨rfl, HK.out.trans (k6.trans k8)⟩
end Go.Proofs.YtijbhmledmnifaaGreatDoor
namespace Go.Proofs.YtijbhmledmnifaaGreatDoor
open Go.RowKit Go.ChangeShapes Go.WideShapes Go.ChangeAt
theorem list_of {α : Type} {Q : Nat -> α -> Prop} : ∀ n, (∀ i, i < n -> ∃ x, Q i x) -> ∃ l : List α, l.length = n ∧ ∀ i x, l[i]? = some x -> Q i x
 | 0, _ => ⟨[], rfl, fun i x h => by simp at h⟩
 | n + 1, h => by
  obtain ⟨l, hl, hq⟩ := list_of n (fun i hi => h i (by omega))
  obtain ⟨x, hx⟩ := h n (by omega)
  refine ⟨l ++ [x], by simp [hl], fun i y hy => ?_⟩
  by_cases hi : i < n
  ·rw [List.getElem?_append_left (by omega)] at hy; exact hq i y hy
  ·rw [List.getElem?_append_right (by omega)] at hy
   have hi0 : i - l.length = 0 := by
    have := (List.getElem?_eq_some_iff.1 hy).1
    simp at this; omega
   rw [hi0] at hy
   have : i = n := by omega
   subst this
   simp at hy; subst hy; exact hx
section
variable {H : Type} {enc : TypeId × Value -> H} {P : Program} {W : World}
theorem open_sl {α : Type} (E : Enc α) {good : α -> Prop} {t e : TypeId} {p : Option Addr} {len cap : Nat} {d : DataW H} {ps : List MemPlace} (ht : P.underlying t = some (.slice e)) (hC : P.cellsOf e = E.k)
  (h : DataW.Trod enc P W 0 (fun _ => true) true t (.slice p len cap) d ps)
  (hdec : ∀ (n : Nat) (cs : List Value) (y : DataW H × List MemPlace), cs.length = E.k -> DataW.trod enc P W 0 (fun _ => true) true n e cs = some y -> ∃ x, E.enc x = cs ∧ good x) :
  ∃ l : List α, len = l.length ∧ SlAt E (fun g => g < W.heap.size) W p cap l ∧ ∀ x ∈ l, good x := by
 obtain ⟨fuel, hf⟩ := h
 rcases Go.Deep.open_slice ht hf with ⟨hcs, _⟩ | ⟨a, len1, cap1, m, n, D, Pl, hcs, _, hl, hm, hmm, _, hi⟩
 ·simp [Value.cells] at hcs
  obtain ⟨e1, e2, e3⟩ := hcs
  subst e1 e2 e3
  exact ⟨[], rfl, ⟨Nat.le_refl _, Nat.zero_le _, fun _ => rfl, (fun h => by omega), (fun h => by simp at h)⟩, by simp⟩
 ·simp [Value.cells] at hcs
  obtain ⟨e1, e2, e3⟩ := hcs
  subst e1 e2 e3
  simp only [if_true] at hmm
  have hmm1 := hmm.symm
  subst hmm1
  clear hmm
  obtain ⟨l, hll, hq⟩ := list_of (Q := fun i x => (∀ j, j < E.k -> W.cell? (a.add (i * E.k + j)) = (E.enc x)[j]?) ∧ good x) cap (fun i him => by
   obtain ⟨cs', hc, ht'⟩ := hi i him
   rw [hC] at hc
   obtain ⟨_, hcl, hat⟩ := World.cells?_some hc
   obtain ⟨x, hx, hg⟩ := hdec n cs' _ hcl ht'
   refine ⟨x, fun j hj => ?_, hg⟩
   rw [hx, <- hat j hj, Go.Deep.add_add])
  have hspot : 0 < cap -> a.spot = none := fun h0 => by
   obtain ⟨x, hx⟩ : ∃ x, l[0]? = some x := ⟨_, List.getElem?_eq_getElem (by omega)⟩
   have h1 := (hq 0 x hx).1 0 E.pos
   obtain ⟨u, hu⟩ : ∃ u, (E.enc x)[0]? = some u := ⟨_, List.getElem?_eq_getElem (by rw [E.len]; exact E.pos)⟩
   rw [hu] at h1
   simpa [Addr.add] using World.cell?_spot h1
  refine ⟨l.take len, by simp; omega, ⟨by simp; omega, hm, (fun h => by cases h), (fun h0 a' ha => by cases ha; exact hspot h0), fun h0 => ?_⟩, fun x hx => ?_⟩
  ·simp at h0
   have hs := hspot (by omega)
   obtain ⟨b, off, sp⟩ := a
   subst hs
   refine ⟨b, off, rfl, ?_, ?_, fun j hj => ?_⟩
   rotate_left 2
   ·have hk := E.pos
    rw [List.length_take, Nat.min_eq_left (by omega)] at hj
    have hd : j = j / E.k * E.k + j % E.k := by rw [Nat.mul_comm]; exact (Nat.div_add_mod j E.k).symm
    have hm' := Nat.mod_lt j hk
    have hq' : j / E.k < len := Nat.div_lt_of_lt_mul (by rw [Nat.mul_comm]; exact hj)
    obtain ⟨x, hx⟩ : ∃ x, l[j / E.k]? = some x := ⟨_, List.getElem?_eq_getElem (by omega)⟩
    have h1 := (hq _ x hx).1 _ hm'
    rw [add_lit] at h1
    rw [hd, h1, E.flat_get _ _ _ hm', List.getElem?_take, if_pos hq', hx]; rfl
   all_goals
    obtain ⟨x, hx⟩ : ∃ x, l[0]? = some x := ⟨_, List.getElem?_eq_getElem (by omega)⟩
    have h1 := (hq 0 x hx).1 0 E.pos
    obtain ⟨u, hu⟩ : ∃ u, (E.enc x)[0]? = some u := ⟨_, List.getElem?_eq_getElem (by rw [E.len]; exact E.pos)⟩
    rw [hu, add_lit] at h1
    exact lt_of_cell h1
  ·obtain ⟨i, hi⟩ := List.mem_iff_getElem?.1 (List.mem_of_mem_take hx)
   exact (hq i x hi).2
end
theorem cells_int6 : Tryz.prog.cellsOf 3 = 1 := by kernel_rfl
theorem cells_string6 : Tryz.prog.cellsOf 9 = 1 := by kernel_rfl
theorem open_ops6 {H : Type} {enc : TypeId × Value -> H} {W : World} {p : Option Addr} {len cap : Nat} {d : DataW H} {ps : List MemPlace}
  (h : DataW.Trod enc Tryz.prog W 0 (fun _ => true) true 50 (.slice p len cap) d ps) :
  ∃ l : List OpS, len = l.length ∧ SlAt encOpS (fun g => g < W.heap.size) W p cap l ∧ ∀ o ∈ l, o.s.size <= maxLen ∧ o.t.size <= maxLen := by
 refine open_sl encOpS Tryz.underlying50 (by kernel_rfl) h fun n cs y hl hy => ?_
 match cs, hl with
 | [v0, v1, v2, v3, v4, v5], _ =>
  obtain ⟨xs, n', _, _, _, hlen, hf⟩ := DataW.trod_struct Tryz.underlying55 hy
  match xs, hlen with
  | [y0, y1, y2, y3, y4, y5], _ =>
   have h0 := hf 0 _ rfl
   have h1 := hf 1 _ rfl
   have h2 := hf 2 _ rfl
   have h3 := hf 3 _ rfl
   have h4 := hf 4 _ rfl
   have h5 := hf 5 _ rfl
   simp only [List.getElem_toArray, List.getElem_cons_zero, List.getElem_cons_succ, cells_int6, cells_string6, List.drop_zero, List.drop_succ_cons, List.take_succ_cons, List.take_zero] at h0 h1 h2 h3 h4 h5
   obtain ⟨a, ha, _, wa⟩ := DataW.trod_int Tryz.underlying3 h0
   obtain ⟨s, hs, _, zs⟩ := DataW.trod_string Tryz.underlying9 h1
   obtain ⟨t, ht, _, zt⟩ := DataW.trod_string Tryz.underlying9 h2
   obtain ⟨m, hm, _, wm⟩ := DataW.trod_int Tryz.underlying3 h3
   obtain ⟨n2, hn, _, wn⟩ := DataW.trod_int Tryz.underlying3 h4
   obtain ⟨k, hk, _, wk⟩ := DataW.trod_int Tryz.underlying3 h5
   simp only [List.cons.injEq, and_true] at ha hs ht hm hn hk
   subst ha hs ht hm hn hk
   exact ⟨⟨a, s, t, m, n2, k⟩, rfl, ⟨zs, zt⟩⟩
end Go.Proofs.YtijbhmledmnifaaGreatDoor
