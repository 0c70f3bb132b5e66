/-
  Layer 23: a line with the letter l, of a directory. (Printed by gentool.py.)
-/
import Derived.Test.YtimidmogcbapnaaGreatDoorG21
import Derived.Test.YtimidmogcbapnaaGreatDoorG14
import Derived.Test.YtimidmogcbapnaaGreatDoorG05
import Derived.Test.YtimidmogcbapnaaGreatDoorG02
import Derived.BigQuiet
import Derived.Deep.QuietTactic
import Derived.Test.YtimidmogcbapnaaGreatDoorG06
import Derived.Test.YtimidmogcbapnaaGreatDoorG01
import Derived.Lib.ConvBytes
import Derived.Laws.IdiomStrings
import Derived.Deep.Cut
import Derived.Test.YtimidmogcbapnaaGreatDoorG13
import Derived.Deep.RegionHeld3
import Derived.Deep.AppendLies
import Derived.Deep.RegionLaw
import Derived.Test.YtimidmogcbapnaaGreatDoorG19
import Derived.Test.YtimidmogcbapnaaGreatDoorG17
import Derived.Deep.RegionWith
import Derived.StillTailTactics
import Derived.Deep.CutRange
import Derived.Test.YtimidmogcbapnaaGreatDoorG10

set_option linter.unusedSimpArgs false
set_option linter.unusedVariables false
set_option maxRecDepth 100000
set_option maxHeartbeats 8000000
namespace Go.Proofs.YtimidmogcbapnaaGreatDoor
open Go Go.RowKit
def lineL (m : Nat) (nm : ByteArray) : ByteArray := ((((((⟨(letL 100 m).toArray⟩ ++ ⟨#[32]⟩) ++ dgB 1) ++ ⟨#[32]⟩) ++ dgB 0) ++ ⟨#[32]⟩) ++ nm) ++ ⟨#[10]⟩
section
variable {W w : World} {Q : Nat -> Prop} {B F a : Nat} {d d' : Nds} {room calls fail at' mask st : Int} {name out err : ByteArray} {iv : Value}
theorem line_l (h : TW W Q w B F a d room calls fail (wkC name F at' mask iv out err st)) (got s nm : ByteArray) (hsz : s.size <= 4294967280) (hnm : nm.size <= 4294967280) (hg : ¬ bIdx got 108 < 0) {m : Nat} (hm : m <= 4095) {n ih : Int} (hn : (thrR d at' s false).1.node = n)
 (hV : statV d (thrR d at' s false) = .agg #[.int .i64 2, .int .i64 (m : Int), .int .i64 1, .int .i64 ih, .int .i64 0]) (hE : statE d (thrR d at' s false) = 0) :
 Calls Tryz.prog 77 #[.pointer (some ⟨B, 0, none⟩), .string got, .string s, .string nm] w fun e w' => e = .returned (.tuple #[.string (lineL m nm), .int .i64 0]) ∧ Keeps NoB w w' := by
 have HT := Lib.hid h
 have HV := Lib.hid hV
 have HE := Lib.hid hE
 have HIb := Lib.hid (fun wx => ib_any got 108 wx)
 rw [show ((108 : Int)).toNat.toUInt8 = 108 from rfl] at HIb
 obtain ⟨gi, hgi⟩ : ∃ gi, bIdx got 108 = gi := ⟨_, rfl⟩
 rw [hgi] at HIb hg
 clear h hV hE hgi
 have HL := Lib.hid (fun w1 : World => modeletters_any m hm w1)
 have HI0 : Hid (∀ w1 : World, Calls Tryz.prog 64 #[.int .i64 0] w1 fun e w' => e = .returned (.string (dgB 0)) ∧ w1 = w') := Lib.hid (fun w1 : World => itoa_digit 0 (.inl rfl) w1)
 have HI1 : Hid (∀ w1 : World, Calls Tryz.prog 64 #[.int .i64 1] w1 fun e w' => e = .returned (.string (dgB 1)) ∧ w1 = w') := Lib.hid (fun w1 : World => itoa_digit 1 (.inr (.inl rfl)) w1)
 obtain ⟨X, hX⟩ : ∃ X : ByteArray, (⟨(letL 100 m).toArray⟩ : ByteArray) = X := ⟨_, rfl⟩
 have hXs : X.size <= 10 := by rw [<- hX]; exact Nat.le_refl 10
 have HLn : Hid (lineL m nm = ((((((X ++ ⟨#[32]⟩) ++ dgB 1) ++ ⟨#[32]⟩) ++ dgB 0) ++ ⟨#[32]⟩) ++ nm) ++ ⟨#[10]⟩) := by show _ = _; rw [<- hX]; rfl
 rw [hX] at HL
 rw [HLn.out]
 have hd0 : (dgB 0).size <= 1 := Nat.le_refl 1
 have hd1 : (dgB 1).size <= 1 := Nat.le_refl 1
 generalize dgB 0 = D0 at *
 generalize dgB 1 = D1 at *
 clear hX hm HLn
 go_enter Tryz.func77, Tryz.ntmps77
 have HSt := Lib.hid (fun (w1 : World) (k : Keeps NoB w w1) => (HT.out.fx.on k).asks fun N hN => stat_any hN at' mask s false hsz)
 rw [HV.out, HE.out, hn] at HSt
 clear hn
 have f0 := HT.out.bx.cell 1 _ rfl
 have b0 := HT.out.bx.cell 2 _ rfl
 have b1 := HT.out.bx.cell 3 _ rfl
 have fl := HT.out.bx.lt
 go_upto_region 1 with fail
 go_cut [10, 11, 12] from 10 to 30 (fun x y z wx => ∃ G : Nat, ∃ wn : World, wn = wx ∧ w.heap.size <= G ∧ x = .int .i64 n ∧ y = .pointer (some ⟨G, 0, none⟩) ∧ z = .int .i64 0 ∧ Bx wx G [.int .i64 2, .int .i64 (m : Int), .int .i64 1, .int .i64 ih, .int .i64 0] ∧ Keeps NoB w wx)
 case first =>
  have kr := Keeps.refl NoB w
  have krd := kr.drew
  have d0 := (HT.out.on krd).bx.cell 1 _ rfl
  have d1 := (HT.out.on krd).bx.cell 2 _ rfl
  have d2 := (HT.out.on krd).bx.cell 3 _ rfl
  go_region_held3 (fun wz => wz.cell? ⟨B, 1, none⟩ = some (.pointer (some ⟨F, 0, none⟩)) ∧ wz.cell? ⟨B, 2, none⟩ = some (.int .i64 at') ∧ wz.cell? ⟨B, 3, none⟩ = some (.int .i64 mask) ∧ Keeps NoB w wz) (refine ⟨?_, ?_, ?_, ?_⟩ <;> first | with_reducible assumption | (with_reducible refine (HT.out.on ?_).bx.cell 1 _ rfl; (repeat (first | with_reducible assumption | (with_reducible exact Keeps.refl _ _) | (with_reducible refine Keeps.drew ?_) | (with_reducible refine Keeps.drewN ?_ _) | (with_reducible refine Keeps.alloc ?_ _) | (with_reducible refine Keeps.setCell ?_ (by first | exact Or.inl rfl | exact Or.inr (Nat.le_refl _) | exact Or.inr (by first | (simp; done) | (simp; omega))) _))); done) | (with_reducible refine (HT.out.on ?_).bx.cell 2 _ rfl; (repeat (first | with_reducible assumption | (with_reducible exact Keeps.refl _ _) | (with_reducible refine Keeps.drew ?_) | (with_reducible refine Keeps.drewN ?_ _) | (with_reducible refine Keeps.alloc ?_ _) | (with_reducible refine Keeps.setCell ?_ (by first | exact Or.inl rfl | exact Or.inr (Nat.le_refl _) | exact Or.inr (by first | (simp; done) | (simp; omega))) _))); done) | (with_reducible refine (HT.out.on ?_).bx.cell 3 _ rfl; (repeat (first | with_reducible assumption | (with_reducible exact Keeps.refl _ _) | (with_reducible refine Keeps.drew ?_) | (with_reducible refine Keeps.drewN ?_ _) | (with_reducible refine Keeps.alloc ?_ _) | (with_reducible refine Keeps.setCell ?_ (by first | exact Or.inl rfl | exact Or.inr (Nat.le_refl _) | exact Or.inr (by first | (simp; done) | (simp; omega))) _))); done) | ((repeat (first | with_reducible assumption | (with_reducible exact Keeps.refl _ _) | (with_reducible refine Keeps.drew ?_) | (with_reducible refine Keeps.drewN ?_ _) | (with_reducible refine Keeps.alloc ?_ _) | (with_reducible refine Keeps.setCell ?_ (by first | exact Or.inl rfl | exact Or.inr (Nat.le_refl _) | exact Or.inr (by first | (simp; done) | (simp; omega))) _))); done))
   (first | (go_at_call 12; refine (HSt.out _ (by (repeat (first | with_reducible assumption | (with_reducible exact Keeps.refl _ _) | (with_reducible refine Keeps.drew ?_) | (with_reducible refine Keeps.drewN ?_ _) | (with_reducible refine Keeps.alloc ?_ _) | (with_reducible refine Keeps.setCell ?_ (by first | exact Or.inl rfl | exact Or.inr (Nat.le_refl _) | exact Or.inr (by first | (simp; done) | (simp; omega))) _))))).mono ?_; rintro e w2 ⟨rfl, hk2⟩; have zky : Keeps NoB w w2 := Keeps.trans (by (repeat (first | with_reducible assumption | (with_reducible exact Keeps.refl _ _) | (with_reducible refine Keeps.drew ?_) | (with_reducible refine Keeps.drewN ?_ _) | (with_reducible refine Keeps.alloc ?_ _) | (with_reducible refine Keeps.setCell ?_ (by first | exact Or.inl rfl | exact Or.inr (Nat.le_refl _) | exact Or.inr (by first | (simp; done) | (simp; omega))) _)))) hk2; have zs := zky.size; have z0 := (HT.out.on zky).bx.cell 1 _ rfl; have z1 := (HT.out.on zky).bx.cell 2 _ rfl; have z2 := (HT.out.on zky).bx.cell 3 _ rfl; (try (have yb := Bx.newD hk2; have y0 := yb.cell 0 _ rfl; have y1 := yb.cell 1 _ rfl; have y2 := yb.cell 2 _ rfl; have y3 := yb.cell 3 _ rfl; have y4 := yb.cell 4 _ rfl; have yf := yb.fz))))
  all_goals (go_wp2_with fail; go_meet; refine ⟨_, _, rfl, ?_, rfl, rfl, rfl, ?_, ?_⟩)
  all_goals first
   | exact Nat.le_refl _
   | exact zs
   | (with_reducible exact Bx.new (Keeps.refl NoB _))
   | (exact ((((yb.put 0 _).put 1 _).put 2 _).put 3 _).put 4 _)
   | ((repeat (first | with_reducible assumption | (with_reducible exact Keeps.refl _ _) | (with_reducible refine Keeps.drew ?_) | (with_reducible refine Keeps.drewN ?_ _) | (with_reducible refine Keeps.alloc ?_ _) | (with_reducible refine Keeps.setCell ?_ (by first | exact Or.inl rfl | exact Or.inr (Nat.le_refl _) | exact Or.inr (by first | (simp; done) | (simp; omega))) _))); done)
   | skip
 case rest =>
  obtain ⟨HIB, wx, rfl, hG, rfl, rfl, rfl, HI, hk⟩ := hcut
  replace HI := Lib.hid HI
  have HK := Lib.hid hk
  have HG := Lib.hid hG
  replace HT := Lib.hid (HT.out.on hk)
  clear f0 b0 b1 fl HSt hG hk
  have i0 := HI.out.cell 0 _ rfl
  have i1 := HI.out.cell 1 _ rfl
  have i2 := HI.out.cell 2 _ rfl
  have i4 := HI.out.cell 4 _ rfl
  go_upto_region 7 with (go_at_call 42; go_loud (refine (HIb.out _).mono ?_); rintro e w3 ⟨rfl, rfl⟩)
  go_cut [14] from 43 to 59 (fun x wy => x = .string ((((((X ++ ⟨#[32]⟩) ++ D1) ++ ⟨#[32]⟩) ++ D0) ++ ⟨#[32]⟩) ++ nm) ∧ Keeps NoB wx wy)
  case first =>
   have krd := (Keeps.refl NoB wx).drew
   have e1 := (HI.out.on krd).cell 1 _ rfl
   have e2 := (HI.out.on krd).cell 2 _ rfl
   have e4 := (HI.out.on krd).cell 4 _ rfl
   have q1 : ¬ 9223372036854775807 < X.size + 1 := by omega
   have q2 : ¬ 9223372036854775807 < X.size + 1 + D1.size := by omega
   have q3 : ¬ 9223372036854775807 < X.size + 1 + D1.size + 1 := by omega
   have q4 : ¬ 9223372036854775807 < X.size + 1 + D1.size + 1 + D0.size := by omega
   have q5 : ¬ 9223372036854775807 < X.size + 1 + D1.size + 1 + D0.size + 1 := by omega
   have q6 : ¬ 9223372036854775807 < X.size + 1 + D1.size + 1 + D0.size + 1 + nm.size := by omega
   go_region_held3 (fun wz => wz.cell? ⟨HIB, 1, none⟩ = some (.int .i64 (m : Int)) ∧ wz.cell? ⟨HIB, 2, none⟩ = some (.int .i64 1) ∧ wz.cell? ⟨HIB, 4, none⟩ = some (.int .i64 0) ∧ Keeps NoB wx wz) (refine ⟨?_, ?_, ?_, ?_⟩ <;> first | with_reducible assumption | ((repeat (first | with_reducible assumption | (with_reducible exact Keeps.refl _ _) | (with_reducible refine Keeps.drew ?_) | (with_reducible refine Keeps.drewN ?_ _) | (with_reducible refine Keeps.alloc ?_ _) | (with_reducible refine Keeps.setCell ?_ (by first | exact Or.inl rfl | exact Or.inr (Nat.le_refl _) | exact Or.inr (by first | (simp; done) | (simp; omega))) _))); done))
    (first | (go_at_call 110; refine (HL.out _).mono ?_; rintro e w2 ⟨rfl, hk2⟩; have zky : Keeps NoB wx w2 := Keeps.trans (by (repeat (first | with_reducible assumption | (with_reducible exact Keeps.refl _ _) | (with_reducible refine Keeps.drew ?_) | (with_reducible refine Keeps.drewN ?_ _) | (with_reducible refine Keeps.alloc ?_ _) | (with_reducible refine Keeps.setCell ?_ (by first | exact Or.inl rfl | exact Or.inr (Nat.le_refl _) | exact Or.inr (by first | (simp; done) | (simp; omega))) _)))) hk2; have z1 := (HI.out.on zky).cell 1 _ rfl; have z2 := (HI.out.on zky).cell 2 _ rfl; have z4 := (HI.out.on zky).cell 4 _ rfl) | (go_at_call 64; ((with_reducible refine (HI1.out _).mono ?_); rintro e w2 ⟨rfl, rfl⟩)) | (go_at_call 64; ((with_reducible refine (HI0.out _).mono ?_); rintro e w2 ⟨rfl, rfl⟩)))
   all_goals (go_wp2_with fail; go_meet; exact ⟨rfl, zky⟩)
  case rest =>
   obtain ⟨rfl, hk2⟩ := hcut
   have j0 := (HI.out.on hk2).cell 0 _ rfl
   have HK2 := Lib.hid (HK.out.trans hk2)
   clear i0 i1 i2 i4 hk2
   go_wp2_with fail
   go_ret2
   exact ⟨rfl, HK2.out⟩
end
section
variable {W w : World} {Q : Nat -> Prop} {B F a : Nat} {d d' : Nds} {room calls fail at' mask st : Int} {name out err : ByteArray} {iv : Value}
theorem ls_ld {S : Nat -> Prop} {p : Option Addr} {c : Nat} {s : ByteArray} (h : TW W Q w B F a d room calls fail (wkC name F at' mask iv out err st)) (hA : SlAt encStr S w p c [⟨#[45, 108, 100]⟩, s]) (hf : noFlag s = true) (hs : s.size <= 1000) {m : Nat} (hm : m <= 4095)
 {n ih : Int} (hn : (thrR d at' s false).1.node = n) (hV : statV d (thrR d at' s false) = .agg #[.int .i64 2, .int .i64 (m : Int), .int .i64 1, .int .i64 ih, .int .i64 0]) (hE : statE d (thrR d at' s false) = 0) :
 Calls Tryz.prog 35 #[.pointer (some ⟨B, 0, none⟩), .slice p 2 c] w fun e w' => e = .returned (.tuple #[]) ∧ TW W Q w' B F a d room calls fail (wkC name F at' mask iv (lineL m s) err st) ∧ Keeps (Lw W Q) w w' := by
 have HT := Lib.hid h
 have HV := Lib.hid hV
 have HE := Lib.hid hE
 have HF := Lib.hid (flags_one hA ⟨#[97, 108, 100, 49]⟩ (by decide) (by decide) (by decide) (by decide) (by decide) (fun y hy => by cases hy; exact hf))
 rw [show (⟨#[45, 108, 100]⟩ : ByteArray).extract 1 (ByteArray.size ⟨#[45, 108, 100]⟩) = ⟨#[108, 100]⟩ by decide] at HF
 simp only [List.length_cons, List.length_nil, Nat.zero_add] at HF
 have hsub := hA.sub 1 2 (by omega) (by simp)
 rw [show ([(⟨#[45, 108, 100]⟩ : ByteArray), s].take 2).drop 1 = [s] from rfl] at hsub
 obtain ⟨vg, vo, hvp, _, hvl, c0⟩ := hsub.str (i := 0) (x := s) rfl
 have hcp := hsub.cap
 have hmx := hsub.max
 unfold maxLen at hmx
 rw [show encStr.k = 1 from rfl] at hvp
 rw [hvp] at HF
 have HC0 : Hid (w.cell? ⟨vg, vo, none⟩ = some (.string s)) := c0
 have hsz : s.size <= 4294967280 := by omega
 have HSz := Lib.hid hsz
 have HIb := Lib.hid (fun wx => ib_any ⟨#[108, 100]⟩ 100 wx)
 rw [show bIdx (⟨#[108, 100]⟩ : ByteArray) ((100 : Int)).toNat.toUInt8 = 1 by decide] at HIb
 have HL := Lib.hid (fun (w1 : World) (k : TW W Q w1 B F a d room calls fail (wkC name F at' mask iv out err st)) => line_l k ⟨#[108, 100]⟩ s s hsz hsz (by decide) hm hn hV hE)
 have HWr := Lib.hid (fun w1 : World => wrong_ok (B := B) 1 w1)
 generalize c - 1 = cc at *
 clear h hA hsub hvp c0 hf hV hE
 go_enter Tryz.func35, Tryz.ntmps35
 go_upto_region 4 with (go_at_call 65; go_loud (refine HF.out.mono ?_); rintro e wf ⟨rfl, hk1⟩)
 have c1 : wf.cell? ⟨vg, vo, none⟩ = some (.string s) := (hk1.cell (p := ⟨vg, vo, none⟩) hvl (fun h => h)).trans HC0.out
 have HT1 := Lib.hid (HT.out.on hk1)
 have HK1 := Lib.hid hk1
 clear HT HF hk1
 go_upto_region 6 with fail
 clear c1
 have HSt := Lib.hid (fun (w1 : World) (k : Keeps NoB wf w1) => (HT1.out.fx.on k).asks fun N hN => stat_any hN at' mask s false HSz.out)
 rw [HV.out, HE.out, hn] at HSt
 clear hn
 have f0 := HT1.out.bx.cell 1 _ rfl
 have b0 := HT1.out.bx.cell 2 _ rfl
 have b1 := HT1.out.bx.cell 3 _ rfl
 have fl := HT1.out.bx.lt
 go_upto_region 6 with fail
 go_cut [7, 8, 9] from 31 to 44 (fun x y z wx => ∃ G : Nat, ∃ wn : World, wn = wx ∧ wf.heap.size <= G ∧ x = .int .i64 n ∧ y = .pointer (some ⟨G, 0, none⟩) ∧ z = .int .i64 0 ∧ Bx wx G [.int .i64 2, .int .i64 (m : Int), .int .i64 1, .int .i64 ih, .int .i64 0] ∧ Keeps NoB wf wx)
 case first =>
  have kr := Keeps.refl NoB wf
  have krd := kr.drew
  have d0 := (HT1.out.on krd).bx.cell 1 _ rfl
  have d1 := (HT1.out.on krd).bx.cell 2 _ rfl
  have d2 := (HT1.out.on krd).bx.cell 3 _ rfl
  go_region_held3 (fun wz => wz.cell? ⟨B, 1, none⟩ = some (.pointer (some ⟨F, 0, none⟩)) ∧ wz.cell? ⟨B, 2, none⟩ = some (.int .i64 at') ∧ wz.cell? ⟨B, 3, none⟩ = some (.int .i64 mask) ∧ Keeps NoB wf wz) (refine ⟨?_, ?_, ?_, ?_⟩ <;> first | with_reducible assumption | (with_reducible refine (HT1.out.on ?_).bx.cell 1 _ rfl; (repeat (first | with_reducible assumption | (with_reducible exact Keeps.refl _ _) | (with_reducible refine Keeps.drew ?_) | (with_reducible refine Keeps.drewN ?_ _) | (with_reducible refine Keeps.alloc ?_ _) | (with_reducible refine Keeps.setCell ?_ (by first | exact Or.inl rfl | exact Or.inr (Nat.le_refl _) | exact Or.inr (by first | (simp; done) | (simp; omega))) _))); done) | (with_reducible refine (HT1.out.on ?_).bx.cell 2 _ rfl; (repeat (first | with_reducible assumption | (with_reducible exact Keeps.refl _ _) | (with_reducible refine Keeps.drew ?_) | (with_reducible refine Keeps.drewN ?_ _) | (with_reducible refine Keeps.alloc ?_ _) | (with_reducible refine Keeps.setCell ?_ (by first | exact Or.inl rfl | exact Or.inr (Nat.le_refl _) | exact Or.inr (by first | (simp; done) | (simp; omega))) _))); done) | (with_reducible refine (HT1.out.on ?_).bx.cell 3 _ rfl; (repeat (first | with_reducible assumption | (with_reducible exact Keeps.refl _ _) | (with_reducible refine Keeps.drew ?_) | (with_reducible refine Keeps.drewN ?_ _) | (with_reducible refine Keeps.alloc ?_ _) | (with_reducible refine Keeps.setCell ?_ (by first | exact Or.inl rfl | exact Or.inr (Nat.le_refl _) | exact Or.inr (by first | (simp; done) | (simp; omega))) _))); done) | ((repeat (first | with_reducible assumption | (with_reducible exact Keeps.refl _ _) | (with_reducible refine Keeps.drew ?_) | (with_reducible refine Keeps.drewN ?_ _) | (with_reducible refine Keeps.alloc ?_ _) | (with_reducible refine Keeps.setCell ?_ (by first | exact Or.inl rfl | exact Or.inr (Nat.le_refl _) | exact Or.inr (by first | (simp; done) | (simp; omega))) _))); done))
   (first | (go_at_call 12; refine (HSt.out _ (by (repeat (first | with_reducible assumption | (with_reducible exact Keeps.refl _ _) | (with_reducible refine Keeps.drew ?_) | (with_reducible refine Keeps.drewN ?_ _) | (with_reducible refine Keeps.alloc ?_ _) | (with_reducible refine Keeps.setCell ?_ (by first | exact Or.inl rfl | exact Or.inr (Nat.le_refl _) | exact Or.inr (by first | (simp; done) | (simp; omega))) _))))).mono ?_; rintro e w2 ⟨rfl, hk2⟩; have zky : Keeps NoB wf w2 := Keeps.trans (by (repeat (first | with_reducible assumption | (with_reducible exact Keeps.refl _ _) | (with_reducible refine Keeps.drew ?_) | (with_reducible refine Keeps.drewN ?_ _) | (with_reducible refine Keeps.alloc ?_ _) | (with_reducible refine Keeps.setCell ?_ (by first | exact Or.inl rfl | exact Or.inr (Nat.le_refl _) | exact Or.inr (by first | (simp; done) | (simp; omega))) _)))) hk2; have zs := zky.size; have z0 := (HT1.out.on zky).bx.cell 1 _ rfl; have z1 := (HT1.out.on zky).bx.cell 2 _ rfl; have z2 := (HT1.out.on zky).bx.cell 3 _ rfl; (try (have yb := Bx.newD hk2; have y0 := yb.cell 0 _ rfl; have y1 := yb.cell 1 _ rfl; have y2 := yb.cell 2 _ rfl; have y3 := yb.cell 3 _ rfl; have y4 := yb.cell 4 _ rfl; have yf := yb.fz))))
  all_goals (go_wp2_with fail; go_meet; refine ⟨_, _, rfl, ?_, rfl, rfl, rfl, ?_, ?_⟩)
  all_goals first
   | exact Nat.le_refl _
   | exact zs
   | (with_reducible exact Bx.new (Keeps.refl NoB _))
   | (exact ((((yb.put 0 _).put 1 _).put 2 _).put 3 _).put 4 _)
   | ((repeat (first | with_reducible assumption | (with_reducible exact Keeps.refl _ _) | (with_reducible refine Keeps.drew ?_) | (with_reducible refine Keeps.drewN ?_ _) | (with_reducible refine Keeps.alloc ?_ _) | (with_reducible refine Keeps.setCell ?_ (by first | exact Or.inl rfl | exact Or.inr (Nat.le_refl _) | exact Or.inr (by first | (simp; done) | (simp; omega))) _))); done)
   | skip
 case rest =>
  obtain ⟨HIB, wx, rfl, hG, rfl, rfl, rfl, HI, hk⟩ := hcut
  replace HI := Lib.hid HI
  have HK := Lib.hid hk
  have HG := Lib.hid hG
  replace HT1 := Lib.hid (HT1.out.on hk)
  clear f0 b0 b1 fl HSt hG hk
  have i0 := HI.out.cell 0 _ rfl
  go_wp2_with (first | (go_at_call 42; go_loud (refine (HIb.out _).mono ?_); rintro e w3 ⟨rfl, rfl⟩) | (go_at_call 77; go_loud (refine (HL.out _ HT1.out).mono ?_); rintro e w4 ⟨rfl, hk4⟩; have ht4 := HT1.out.on hk4; have a5 := ht4.bx.cell 5 _ rfl; have al := ht4.bx.lt; have af := ht4.bx.fz 5; have ht5 := ht4.put 5 (.string (lineL m s))) | (go_at_call 30; go_loud (refine (HWr.out _).mono ?_); rintro e w5 ⟨rfl, rfl⟩))
  go_end0
  refine ⟨rfl, ht5, ?_⟩
  exact ((HK1.out.trans HK.out).trans hk4).of_none.step (keeps_set w4 ⟨B, 5, none⟩ (.string (lineL m s))) (fun g e => .inl (by have e' : g = B := e; rw [e']; exact ⟨ht4.low, ht4.nQ⟩))
end
end Go.Proofs.YtimidmogcbapnaaGreatDoor
namespace Go.Proofs.YtimidmogcbapnaaGreatDoor
theorem into_dir {d : Nds} {i : Int} (h : intoErr d i = 0) : folderErr d i = 0 := by
 unfold intoErr at h
 exact Classical.byContradiction fun hf => by rw [if_pos hf] at h; exact hf h
theorem dataOf_link {d : Nds} {i : Int} (h : (nd d i).kind = 3) : dataOf d i = (nd d i).data := by
 unfold dataOf
 rw [if_neg (by rw [h]; decide), if_neg (by rw [h]; decide)]
section
variable {d : Nds} {up : Int -> Int} {at' : Int} {x : ByteArray} {n : Nat}
theorem step_look (hin : intoErr d at' = 0) (h1 : ¬ x = dotB) (h2 : ¬ x = dotsB) (h3 : x.size <= 255) {fl : Bool} {k : Int} (hg : entGet (nd d at').ents x = some k) :
 stepR d up at' x fl n = if fl = false then ⟨⟨k, at', x⟩, ⟨#[]⟩, 0, n⟩ else if (nd d k).kind ≠ 3 then ⟨⟨k, at', x⟩, ⟨#[]⟩, 0, n⟩ else if 40 < n + 1 then ⟨.no, ⟨#[]⟩, 17, n + 1⟩ else ⟨⟨k, at', x⟩, dataOf d k, 0, n + 1⟩ := by
 have hf := into_dir hin
 have hl : lookErr d at' x = 0 := by unfold lookErr; rw [if_neg (by rw [hf]; simp), hg]; rfl
 have ho : lookOf d at' x = k := by unfold lookOf; rw [if_neg (by rw [hf]; simp), hg]; rfl
 unfold stepR
 rw [if_neg (by rw [hin]; simp), if_neg h1, if_neg h2, if_neg (by omega), hl, ho]
 cases fl
 ·simp
 ·rw [if_neg (by simp)]
  simp
theorem step_none (hin : intoErr d at' = 0) (h1 : ¬ x = dotB) (h2 : ¬ x = dotsB) (h3 : x.size <= 255) {fl : Bool} (hg : entGet (nd d at').ents x = none) :
 stepR d up at' x fl n = ⟨⟨0, at', x⟩, ⟨#[]⟩, 0, n⟩ := by
 have hf := into_dir hin
 have hl : lookErr d at' x ≠ 0 := by unfold lookErr; rw [if_neg (by rw [hf]; simp), hg]; simp
 have ho : lookOf d at' x = 0 := by unfold lookOf; rw [if_neg (by rw [hf]; simp), hg]; rfl
 unfold stepR
 rw [if_neg (by rw [hin]; simp), if_neg h1, if_neg h2, if_neg (by omega), if_pos (.inl hl), ho]
theorem scan_one {slash follow : Bool} {q : StepR} {p : Plc} (hs : stepR d up at' x (slash || follow) n = q) :
 scan d up slash follow [x] at' n p = if q.e ≠ 0 then .err q.e else if q.t ≠ ⟨#[]⟩ then .again at' (restB q.t [] slash) q.n else .fin q.p := by
 unfold scan
 simp only [List.isEmpty_nil, Bool.not_true, Bool.false_or, hs]
 by_cases h1 : q.e ≠ 0
 ·rw [if_pos h1, if_pos h1]
 rw [if_neg h1, if_neg h1]
 by_cases h2 : q.t ≠ ⟨#[]⟩
 ·rw [if_pos h2, if_pos h2]
 rw [if_neg h2, if_neg h2, if_neg (fun h => h.2 rfl)]
 rfl
theorem find_name {follow : Bool} {fuel : Nat} (hin : intoErr d 1 = 0) (hp : pathErr x = 0) (hl : prts x = [x]) (hs : endS x = false) (ha : absB x = false) (h1 : ¬ x = dotB) (h2 : ¬ x = dotsB) (h3 : x.size <= 255) {k : Int} (hg : entGet (nd d 1).ents x = some k) (_hk : k ≠ 0) :
 findR d up follow (fuel + 1) 1 x n = if follow = true ∧ (nd d k).kind = 3 then (if 40 < n + 1 then (.no, 17) else if (nd d k).data = ⟨#[]⟩ then (⟨k, 1, x⟩, 0) else findR d up follow fuel 1 (nd d k).data (n + 1)) else (⟨k, 1, x⟩, 0) := by
 rw [findR, if_neg (by rw [hp]; simp), hl, if_neg (by simp), hs, ha]
 simp only [Bool.false_eq_true, if_false]
 have hst := step_look (up := up) (n := n) (fl := follow) hin h1 h2 h3 hg
 by_cases hf : follow = false
 ·subst hf
  rw [if_pos rfl] at hst
  rw [scan_one (slash := false) (follow := false) hst, if_neg (by simp)]
  simp [endR]
 ·have hf : follow = true := by simpa using hf
  subst hf
  rw [if_neg (by simp)] at hst
  by_cases hk3 : (nd d k).kind = 3
  ·rw [if_neg (by simp [hk3])] at hst
   rw [if_pos ⟨rfl, hk3⟩]
   by_cases h4 : 40 < n + 1
   ·rw [if_pos h4] at hst
    rw [scan_one (slash := false) (follow := true) hst, if_pos h4]
    simp
   ·rw [if_neg h4, dataOf_link hk3] at hst
    rw [scan_one (slash := false) (follow := true) hst, if_neg h4]
    by_cases he : (nd d k).data = ⟨#[]⟩
    ·simp [he, endR]
    ·simp [he, restB]
  ·rw [if_pos hk3] at hst
   rw [scan_one (slash := false) (follow := true) hst]
   simp [endR, hk3]
end
-- the document's example
section
variable {d : Nds} {room kind m : Int} {s : ByteArray} {p : Plc}
theorem made_ok (hI : DInv d) (hcl : NoGarb d) (hne : p.dir ≠ d.length) (he : makeErr d room kind m s = 0) (hE : enterErr (d ++ [newNd kind m s]) room p.dir p.name d.length = 0) :
 (madeR d room p kind m s).2 = 0 ∧ (madeR d room p kind m s).1.length = d.length + 1 ∧
   ∀ j, nd (madeR d room p kind m s).1 j = if j = d.length then ⟨kind, m, 0, s, []⟩ else if j = p.dir then (nd d p.dir).setEnts (entPut (nd d p.dir).ents p.name d.length) else nd d j := by
 obtain ⟨k1, k2⟩ := makeErr_kind he
 have ht := hI.two
 unfold madeR entrR
 rw [if_neg (by rw [he]; simp)]
 simp only [hE, true_and]
 obtain ⟨pn, at', nm⟩ := p
 simp only at hne hE ⊢
 generalize hd1 : d ++ [newNd kind m s] = d1 at *
 have hn1 : ∀ j, nd d1 j = if j = d.length then newNd kind m s else nd d j := fun j => by rw [<- hd1, nd_append]
 have hl1 : d1.length = d.length + 1 := by rw [<- hd1]; simp
 obtain ⟨hf, hp⟩ := enterErr_folder hE
 have hat1 := (folderErr_has hf).1
 have hd2 : enterD d1 room at' nm d.length = enterTo d1 at' nm d.length := by unfold enterD; rw [if_pos hE]
 rw [hd2]
 have hn2 : ∀ j, nd (enterTo d1 at' nm d.length) j = if j = at' then (nd d at').setEnts (entPut (nd d at').ents nm d.length) else nd d1 j := fun j => by
  unfold enterTo
  rw [nd_setE hat1, hn1 at', if_neg hne]
 have hl2 : (enterTo d1 at' nm d.length).length = d.length + 1 := by unfold enterTo; rw [length_setE, hl1]
 have hnid : nd (enterTo d1 at' nm d.length) d.length = newNd kind m s := by rw [hn2, if_neg (fun e => hne e.symm), hn1, if_pos rfl]
 have hid : has (enterTo d1 at' nm d.length) d.length := by unfold has; rw [hnid]; show kind ≠ 0; omega
 have hr : relErr (enterTo d1 at' nm d.length) d.length = 0 := relErr_ok hid (by rw [hnid]; show (1 : Int) ≠ 0; decide)
 have hn3 : ∀ j, nd (relTo (enterTo d1 at' nm d.length) d.length) j = if j = d.length then ⟨kind, m, 0, s, []⟩ else if j = at' then (nd d at').setEnts (entPut (nd d at').ents nm d.length) else nd d j := fun j => by
  rw [nd_relTo hid, hnid, hn2, hn1]
  split
  ·rfl
  ·split
   ·rfl
   ·rfl
 have hhas : entHas (nd d at').ents nm = false := by
  rw [hn1, if_neg hne] at hp
  exact (putErr_zero.1 hp).2
 have hng : NoGarb (relTo (enterTo d1 at' nm d.length) d.length) := by
  rintro j ⟨h1, h2, h3⟩
  have hc : cnt (relTo (enterTo d1 at' nm d.length) d.length) j = 0 := by unfold links at h2; omega
  have hj1 : j ≠ 1 := fun e => by unfold links at h2; rw [if_pos e] at h2; omega
  have hno : ∀ i e, e ∈ (nd (relTo (enterTo d1 at' nm d.length) d.length) i).ents -> e.2 ≠ j := fun i e hm h4 => by
   have := cnt_pos.2 ⟨i, e, hm, h4⟩
   omega
  by_cases hj : j = d.length
  ·subst hj
   refine hno at' (nm, d.length) ?_ rfl
   rw [hn3, if_neg hne, if_pos rfl]
   exact (mem_entPut hhas _).2 (.inr rfl)
  ·have hcd : cnt d j = 0 := Nat.eq_zero_of_not_pos fun hpos => by
    obtain ⟨i, e, hm, h4⟩ := cnt_pos.1 hpos
    refine hno i e ?_ h4
    have hi : i ≠ d.length := fun e1 => by
     rw [e1, nd_gone (by omega)] at hm
     cases hm
    rw [hn3, if_neg hi]
    split
    ·next e1 => rw [e1] at hm; exact (mem_entPut hhas _).2 (.inl hm)
    ·exact hm
   have hho : (nd d j).holds = 0 := by
    rw [hn3, if_neg hj] at h3
    split at h3
    ·next e1 => rw [e1]; exact h3
    ·exact h3
   refine hcl j ⟨?_, by unfold links; rw [if_neg hj1, hcd], hho⟩
   unfold has at h1 ⊢
   rw [hn3, if_neg hj] at h1
   split at h1
   ·next e1 => rw [e1]; exact h1
   ·exact h1
 have hres : relD (enterTo d1 at' nm d.length) d.length = relTo (enterTo d1 at' nm d.length) d.length := by
  unfold relD
  rw [if_pos hr, gc_same hng]
 rw [hres]
 refine ⟨?_, hn3⟩
 unfold relTo
 rw [upd_length, hl2]
theorem made_go (hI : DInv d) {at' : Int} {nm : ByteArray} (hk1 : 1 <= kind) (hk3 : kind <= 3) (hm : okMode m = true) (hd : kind = 2 -> s.size = 0) (hz : s.size <= 4194304)
 (hn : okName nm = true) (hf : folderErr d at' = 0) (hno : entHas (nd d at').ents nm = false) (hc : count d < 65536) (hu : (used d : Int) + s.size + nm.size <= room) :
 at' ≠ d.length ∧ makeErr d room kind m s = 0 ∧ enterErr (d ++ [newNd kind m s]) room at' nm d.length = 0 := by
 have ht := hI.two
 have hfh := folderErr_has hf
 have hr := has_range hfh.1
 have hne : at' ≠ d.length := by omega
 have he : makeErr d room kind m s = 0 := by
  unfold makeErr
  rw [if_neg (by omega), if_neg (by omega), if_neg (fun h => h.2 (hd h.1)), if_neg (by rw [hm]; simp), if_neg (by omega), if_neg (by omega), if_neg (by omega)]
 refine ⟨hne, he, ?_⟩
 have hn1 : nd (d ++ [newNd kind m s]) d.length = newNd kind m s := by rw [nd_append, if_pos rfl]
 have hna : nd (d ++ [newNd kind m s]) at' = nd d at' := by rw [nd_append, if_neg hne]
 have hlk : links (d ++ [newNd kind m s]) d.length = 0 := by
  rw [links_append rfl]
  have := cnt_none hI (not_has_length d)
  unfold links
  rw [this, if_neg (by omega)]
 have hu1 : used (d ++ [newNd kind m s]) = used d + s.size := by rw [used_append]; rfl
 have hf1 : folderErr (d ++ [newNd kind m s]) at' = 0 := by
  unfold folderErr at hf ⊢
  rw [hna]
  exact hf
 unfold enterErr
 rw [if_neg (by rw [hf1]; simp), hn1, hlk, hna, if_neg (by show ¬ kind = 0; omega), if_neg (by simp), if_neg (by decide), if_neg (by rw [putErr_zero.2 ⟨hn, hno⟩]; simp), if_neg (by rw [hu1]; omega)]
theorem fresh_ok {mask flags : Int} {t : ByteArray} (h4 : flg flags 4 = true) (hs : endS t = false) (hmy : mayE d p.dir 128 = 0) (hne : p.dir ≠ d.length) (he : makeErr d room 1 (freshM m mask) ⟨#[]⟩ = 0)
 (hE : enterErr (d ++ [newNd 1 (freshM m mask) ⟨#[]⟩]) room p.dir p.name d.length = 0) :
 (freshR d room mask p t flags m).2 = ((d.length : Int), 0) ∧ (freshR d room mask p t flags m).1.length = d.length + 1 ∧
   ∀ j, nd (freshR d room mask p t flags m).1 j = if j = d.length then ⟨1, freshM m mask, 1, ⟨#[]⟩, []⟩ else if j = p.dir then (nd d p.dir).setEnts (entPut (nd d p.dir).ents p.name d.length) else nd d j := by
 unfold freshR
 rw [if_neg (by rw [h4]; simp), if_neg (by rw [hs]; simp), if_neg (by rw [hmy]; simp), if_neg (by rw [he]; simp), if_neg (by rw [hE]; simp)]
 obtain ⟨hf, _⟩ := enterErr_folder hE
 have hat1 := (folderErr_has hf).1
 have hn1 : ∀ j, nd (d ++ [newNd 1 (freshM m mask) ⟨#[]⟩]) j = if j = d.length then newNd 1 (freshM m mask) ⟨#[]⟩ else nd d j := fun j => by rw [nd_append]
 have hd2 : enterD (d ++ [newNd 1 (freshM m mask) ⟨#[]⟩]) room p.dir p.name d.length = enterTo (d ++ [newNd 1 (freshM m mask) ⟨#[]⟩]) p.dir p.name d.length := by unfold enterD; rw [if_pos hE]
 simp only
 rw [hd2]
 refine ⟨by first | rfl | trivial, by unfold enterTo; rw [length_setE]; simp, fun j => ?_⟩
 unfold enterTo
 rw [nd_setE hat1, hn1 p.dir, if_neg hne, hn1]
 by_cases h1 : j = p.dir
 ·rw [if_pos h1, if_neg (fun e => hne (h1.symm.trans e)), if_pos h1]
 ·rw [if_neg h1, if_neg h1]
  rfl
end
section
variable {d : Nds} {up : Int -> Int} {s a b : ByteArray} {follow : Bool}
theorem find_1 (hin : intoErr d 1 = 0) (hp : pathErr s = 0) (hl : prts s = [a]) (hs : endS s = false) (ha : absB s = false) (h1 : ¬ a = dotB) (h2 : ¬ a = dotsB) (h3 : a.size <= 255) (hk : ∀ k, entGet (nd d 1).ents a = some k -> (nd d k).kind ≠ 3) (fuel n : Nat) :
 findR d up follow (fuel + 1) 1 s n = (⟨(entGet (nd d 1).ents a).getD 0, 1, a⟩, 0) := by
 rw [findR, if_neg (by rw [hp]; simp), hl, if_neg (by simp), hs, ha]
 simp only [Bool.false_eq_true, if_false]
 cases hg : entGet (nd d 1).ents a with
 | none =>
   rw [scan_one (slash := false) (follow := follow) (step_none (up := up) (n := n) hin h1 h2 h3 hg), if_neg (by simp), if_neg (by simp)]
   simp [endR]
 | some k =>
   have hst := step_look (up := up) (n := n) (fl := follow) hin h1 h2 h3 hg
   have hq : stepR d up 1 a (false || follow) n = ⟨⟨k, 1, a⟩, ⟨#[]⟩, 0, n⟩ := by
    rw [Bool.false_or, hst]
    cases follow
    ·simp
    ·simp [hk k hg]
   rw [scan_one (slash := false) (follow := follow) hq, if_neg (by simp), if_neg (by simp)]
   simp [endR]
theorem find_2 (hin : intoErr d 1 = 0) (hp : pathErr s = 0) (hl : prts s = [a, b]) (hs : endS s = false) (ha : absB s = false) (h1 : ¬ a = dotB) (h2 : ¬ a = dotsB) (h3 : a.size <= 255) (g1 : ¬ b = dotB) (g2 : ¬ b = dotsB) (g3 : b.size <= 255)
 {k : Int} (hg : entGet (nd d 1).ents a = some k) (hk0 : k ≠ 0) (hk2 : (nd d k).kind ≠ 3) (hin2 : intoErr d k = 0) (hk : ∀ j, entGet (nd d k).ents b = some j -> (nd d j).kind ≠ 3) (fuel n : Nat) :
 findR d up follow (fuel + 1) 1 s n = (⟨(entGet (nd d k).ents b).getD 0, k, b⟩, 0) := by
 rw [findR, if_neg (by rw [hp]; simp), hl, if_neg (by simp), hs, ha]
 simp only [Bool.false_eq_true, if_false]
 have hq : ∀ fl, stepR d up 1 a fl n = ⟨⟨k, 1, a⟩, ⟨#[]⟩, 0, n⟩ := fun fl => by
  rw [step_look hin h1 h2 h3 hg]
  cases fl
  ·simp
  ·simp [hk2]
 rw [scan]
 simp only [hq]
 rw [if_neg (by simp), if_neg (by simp), if_neg (fun h => hk0 h.1)]
 cases hg2 : entGet (nd d k).ents b with
 | none =>
   rw [scan_one (slash := false) (follow := follow) (step_none (up := up) (n := n) hin2 g1 g2 g3 hg2), if_neg (by simp), if_neg (by simp)]
   simp [endR]
 | some j =>
   have hst := step_look (up := up) (n := n) (fl := follow) hin2 g1 g2 g3 hg2
   have hq2 : stepR d up k b (false || follow) n = ⟨⟨j, k, b⟩, ⟨#[]⟩, 0, n⟩ := by
    rw [Bool.false_or, hst]
    cases follow
    ·simp
    ·simp [hk j hg2]
   rw [scan_one (slash := false) (follow := follow) hq2, if_neg (by simp), if_neg (by simp)]
   simp [endR]
end
-- the document's example
end Go.Proofs.YtimidmogcbapnaaGreatDoor
namespace Go.Proofs.YtimidmogcbapnaaGreatDoor
open Go Go.RowKit
structure FP where
 means : Bool
 dot : Bool
 mt : ByteArray -> Bool
section
variable {N : Nat -> Prop} {w w' w2 : World} {F a : Nat} {d d' : Nds} {room calls fail : Int}
variable {G : Nat} {at' mask : Int} {v v' v2 : Value} {out out' out2 : List ByteArray}
end
end Go.Proofs.YtimidmogcbapnaaGreatDoor
namespace Go.Proofs.YtimidmogcbapnaaGreatDoor
section
variable {d : Nds} {up : Int -> Int}
theorem okName_parts {n : ByteArray} (h : okName n = true) : ¬ n = ⟨#[]⟩ ∧ n ≠ dotB ∧ n ≠ dotsB ∧ n.size <= 255 ∧ hasB n 47 = false := by
 unfold okName at h
 simp only [Bool.and_eq_true, decide_eq_true_eq, Bool.not_eq_true', bne_iff_ne, ne_eq] at h
 obtain ⟨⟨⟨⟨⟨h1, h2⟩, h3⟩, h4⟩, h5⟩, h6⟩ := h
 refine ⟨fun e => ?_, fun e => ?_, fun e => ?_, h2, h5⟩
 ·subst e; exact absurd h1 (by decide)
 ·subst e; exact h3 rfl
 ·subst e; exact h4 rfl
end
section
variable {d : Nds}
structure RootOk (d : Nds) (k : Nat) : Prop where
 kind : (nd d 1).kind = 2
 mode : (nd d 1).mode = 493
 ents : (nd d 1).ents.length <= k
theorem RootOk.into {k : Nat} (h : RootOk d k) : intoErr d 1 = 0 := by
 unfold intoErr folderErr
 rw [h.kind, h.mode]; decide
theorem RootOk.thr {k : Nat} (h : RootOk d k) (hI : DInv d) : thrR d 1 dotB true = (.on 1, 0) := by
 have hq : stepR d (upC d) 1 dotB (false || true) 0 = ⟨.on 1, ⟨#[]⟩, 0, 0⟩ := by
  unfold stepR
  rw [if_neg (by rw [h.into]; simp), if_pos rfl]
 unfold thrR fndR
 rw [findR, if_neg (by decide), show prts dotB = [dotB] by decide, if_neg (by simp), show endS dotB = false by decide, show absB dotB = false by decide]
 simp only [Bool.false_eq_true, if_false]
 rw [scan_one (slash := false) (follow := true) hq, if_neg (by simp), if_neg (by simp)]
 simp [endR, thereR, Plc.on]
theorem RootOk.list {k : Nat} (h : RootOk d k) (hI : DInv d) : lstE d (thrR d 1 dotB true) = 0 := by
 rw [h.thr hI]
 have hh : has d 1 := by unfold has; rw [h.kind]; decide
 have e1 : statE d (Plc.on 1, 0) = 0 := by
  unfold statE
  rw [if_neg (by simp)]
  exact if_pos hh
 unfold lstE
 rw [e1, if_neg (by simp)]
 show (if (nd d 1).kind ≠ 2 then _ else if (bits BinOp.and IntKind.i64 (nd d 1).mode 256 == 0) = true then _ else _) = _
 rw [if_neg (by rw [h.kind]; simp), h.mode]
 decide
end
section
variable {d d' : Nds} {room : Int}
theorem Kills.root (k : Kills d d') (h : has d 1) : nd d' 1 = nd d 1 := by
 induction k with
 | refl => rfl
 | @step d1 d2 i hi _ ih =>
   have hne : (1 : Int) ≠ i := fun e => by subst e; exact DInv.not_garb_root hi
   have hq : nd (kill d1 i) 1 = nd d1 1 := by rw [nd_kill hi.1, if_neg hne]
   rw [ih (by unfold has; rw [hq]; exact h), hq]
theorem RootOk.mono {k k' : Nat} (h : RootOk d k) (hk : k <= k') : RootOk d k' := ⟨h.kind, h.mode, Nat.le_trans h.ents hk⟩
theorem RootOk.has {k : Nat} (h : RootOk d k) : has d 1 := by unfold Go.Proofs.YtimidmogcbapnaaGreatDoor.has; rw [h.kind]; decide
theorem RootOk.same {k : Nat} (h : RootOk d k) (e : nd d' 1 = nd d 1) : RootOk d' k := ⟨by rw [e]; exact h.kind, by rw [e]; exact h.mode, by rw [e]; exact h.ents⟩
theorem RootOk.new : RootOk newD 0 := by
 have e : nd newD 1 = rootNd := by rw [nd_new, if_pos rfl]
 exact ⟨by rw [e]; rfl, by rw [e]; rfl, by rw [e]; exact Nat.le_refl 0⟩
theorem nds_ext {e : Nds} (hl : d.length = e.length) (h : ∀ j, nd d j = nd e j) : d = e := by
 apply List.ext_getElem hl
 intro i h1 h2
 have := h i
 unfold nd at this
 rw [if_pos (by omega), if_pos (by omega), Int.toNat_natCast] at this
 simpa [List.getD, List.getElem?_eq_getElem h1, List.getElem?_eq_getElem h2] using this
theorem mk_root (hI : DInv d) (hcl : NoGarb d) {k : Nat} (h : RootOk d k) {x : ByteArray} (hp : pathErr x = 0) (hl : prts x = [x]) (hs : endS x = false) (ha : absB x = false) (hn : okName x = true) (hno : entHas (nd d 1).ents x = false) (hc : count d < 65536) (hu : (used d : Int) + x.size <= 100) :
 (mkdirR d 100 1 0 x 511).2 = 0 ∧ (mkdirR d 100 1 0 x 511).1.length = d.length + 1 ∧
   ∀ j, nd (mkdirR d 100 1 0 x 511).1 j = if j = d.length then ⟨2, 511, 0, ⟨#[]⟩, []⟩ else if j = 1 then (nd d 1).setEnts (entPut (nd d 1).ents x d.length) else nd d j := by
 obtain ⟨n1, n2, n3, n4, n5⟩ := okName_parts hn
 have hg := entGet_none hno
 have hf : fndR d 1 x false = (⟨0, 1, x⟩, 0) := by
  have := find_1 (d := d) (up := upC d) (s := x) (a := x) (follow := false) h.into hp hl hs ha n2 n3 n4 (fun k hk => by rw [hg] at hk; cases hk) 40 0
  rw [hg] at this
  exact this
 have hmy : mayE d 1 128 = 0 := by unfold mayE; rw [if_neg (fun hh => hh h.has), h.mode]; decide
 have hfr : freeR d 1 x true = (⟨0, 1, x⟩, 0) := by
  unfold freeR
  rw [hf, if_neg (by simp), if_neg (by simp), if_neg (by simp), hmy]
 obtain ⟨g1, g2, g3⟩ := made_go (d := d) (room := 100) (kind := 2) (m := freshM 511 0) (s := ⟨#[]⟩) (at' := 1) (nm := x) hI (by decide) (by decide) (by decide) (by decide) (by decide) hn
  (by unfold folderErr; rw [h.kind]; decide) hno hc (by rw [show (⟨#[]⟩ : ByteArray).size = 0 from rfl]; omega)
 obtain ⟨h1, h2, h3⟩ := made_ok (p := ⟨0, 1, x⟩) hI hcl g1 g2 g3
 unfold mkdirR
 rw [hfr, if_neg (by simp)]
 refine ⟨h1, h2, fun j => ?_⟩
 rw [h3]
 rw [show freshM 511 0 = 511 by decide]
end
def ancD (es : List Ent) (n : Nat) : Nds := [Nd.gone, ⟨2, 493, 0, ⟨#[]⟩, es⟩] ++ List.replicate n ⟨2, 511, 0, ⟨#[]⟩, []⟩
theorem anc_step {es : List Ent} {n : Nat} (hI : DInv (ancD es n)) (hcl : NoGarb (ancD es n)) {x : ByteArray} (hp : pathErr x = 0) (hl : prts x = [x]) (hs : endS x = false) (ha : absB x = false) (hn : okName x = true) (hno : entHas es x = false)
 (hc : count (ancD es n) < 65536) (hu : (used (ancD es n) : Int) + x.size <= 100) : (mkdirR (ancD es n) 100 1 0 x 511).1 = ancD (entPut es x ((n + 2 : Nat) : Int)) (n + 1) := by
 have e1 : nd (ancD es n) 1 = ⟨2, 493, 0, ⟨#[]⟩, es⟩ := rfl
 have h : RootOk (ancD es n) es.length := ⟨by rw [e1], by rw [e1], by rw [e1]; exact Nat.le_refl _⟩
 have hlen : (ancD es n).length = n + 2 := by unfold ancD; simp <;> omega
 obtain ⟨_, h2, h3⟩ := mk_root hI hcl h hp hl hs ha hn (by rw [e1]; exact hno) hc hu
 have happ : ancD (entPut es x ((n + 2 : Nat) : Int)) (n + 1) = ancD (entPut es x ((n + 2 : Nat) : Int)) n ++ [⟨2, 511, 0, ⟨#[]⟩, []⟩] := by
  unfold ancD
  rw [List.replicate_succ', List.append_assoc]
 have hlen2 : (ancD (entPut es x ((n + 2 : Nat) : Int)) n).length = n + 2 := by unfold ancD; simp <;> omega
 refine nds_ext (by rw [h2, hlen]; unfold ancD; simp <;> omega) fun j => ?_
 rw [h3, hlen, happ, nd_append, hlen2]
 by_cases j1 : j = ((n + 2 : Nat) : Int)
 ·rw [if_pos j1, if_pos j1]
 rw [if_neg j1, if_neg j1]
 by_cases j2 : j = 1
 ·subst j2
  rw [if_pos rfl]
  rfl
 rw [if_neg j2]
 by_cases j3 : 0 <= j
 ·obtain ⟨i, rfl⟩ : ∃ i : Nat, j = i := ⟨j.toNat, by omega⟩
  match i, j2 with
  | 0, _ => rfl
  | 1, h => exact absurd rfl h
  | i + 2, _ => rfl
 ·unfold nd
  rw [if_neg j3, if_neg j3]
def tA0 : Nds := newD
def tA1 : Nds := [Nd.gone, ⟨2, 493, 0, ⟨#[]⟩, [(⟨#[97]⟩, 2)]⟩, ⟨2, 511, 0, ⟨#[]⟩, []⟩]
def tA2 : Nds := [Nd.gone, ⟨2, 493, 0, ⟨#[]⟩, [(⟨#[97]⟩, 2)]⟩, ⟨2, 511, 0, ⟨#[]⟩, [(⟨#[98]⟩, 3)]⟩, ⟨2, 511, 0, ⟨#[]⟩, []⟩]
theorem orFail_ok {calls fail : Int} {d : Nds} (x : Nds × Int) (h : ¬ calls = fail) : orFail calls fail d x = x := by
 unfold orFail callE
 rw [if_neg h, if_neg (by simp)]
theorem tA_find_a0 (fl : Bool) : fndR tA0 1 ⟨#[97]⟩ fl = (⟨0, 1, ⟨#[97]⟩⟩, 0) := by
 have n1 : nd tA0 1 = rootNd := by rw [tA0, nd_new, if_pos rfl]
 have := find_1 (d := tA0) (up := upC tA0) (s := ⟨#[97]⟩) (a := ⟨#[97]⟩) (follow := fl) (by decide) (by decide) (by decide) (by decide) (by decide) (by decide) (by decide) (by decide) (fun k hk => by rw [n1] at hk; cases hk) 40 0
 rw [n1] at this
 exact this
theorem tA_thr_a0 : (thrR tA0 1 ⟨#[97]⟩ true).1.node = 0 ∧ statE tA0 (thrR tA0 1 ⟨#[97]⟩ true) = 12 ∧ statV tA0 (thrR tA0 1 ⟨#[97]⟩ true) = .agg #[.int .i64 0, .int .i64 0, .int .i64 0, .int .i64 0, .int .i64 0] := by
 have : thrR tA0 1 ⟨#[97]⟩ true = (.no, 12) := by
  unfold thrR
  rw [tA_find_a0]
  unfold thereR
  rw [if_neg (by simp), if_pos rfl]
 rw [this]
 exact ⟨rfl, rfl, rfl⟩
theorem tA_mk1 (hI : DInv tA0) (hcl : NoGarb tA0) : (orFail 0 (-1) tA0 (mkdirR tA0 100 1 0 ⟨#[97]⟩ 511)).1 = tA1 := by
 rw [orFail_ok _ (by decide)]
 have : tA0 = ancD [] 0 := rfl
 rw [this] at hI hcl ⊢
 exact anc_step hI hcl (by decide) (by decide) (by decide) (by decide) (by decide) (by decide) (by decide) (by decide)
theorem tA_find_b1 (fl : Bool) : fndR tA1 1 ⟨#[97, 47, 98]⟩ fl = (⟨0, 2, ⟨#[98]⟩⟩, 0) := by
 have n2 : nd tA1 2 = ⟨2, 511, 0, ⟨#[]⟩, []⟩ := rfl
 have := find_2 (d := tA1) (up := upC tA1) (s := ⟨#[97, 47, 98]⟩) (a := ⟨#[97]⟩) (b := ⟨#[98]⟩) (follow := fl) (by decide) (by decide) (by decide) (by decide) (by decide) (by decide) (by decide) (by decide) (by decide) (by decide) (by decide) (k := 2) (by decide) (by decide) (by decide) (by decide) (fun j hk => by rw [n2] at hk; cases hk) 40 0
 rw [n2] at this
 exact this
theorem tA_thr_b1 : (thrR tA1 1 ⟨#[97, 47, 98]⟩ true).1.node = 0 ∧ statE tA1 (thrR tA1 1 ⟨#[97, 47, 98]⟩ true) = 12 ∧ statV tA1 (thrR tA1 1 ⟨#[97, 47, 98]⟩ true) = .agg #[.int .i64 0, .int .i64 0, .int .i64 0, .int .i64 0, .int .i64 0] := by
 have : thrR tA1 1 ⟨#[97, 47, 98]⟩ true = (.no, 12) := by
  unfold thrR
  rw [tA_find_b1]
  unfold thereR
  rw [if_neg (by simp), if_pos rfl]
 rw [this]
 exact ⟨rfl, rfl, rfl⟩
theorem tA_mk2 (hI : DInv tA1) (hcl : NoGarb tA1) : orFail 1 (-1) tA1 (mkdirR tA1 100 1 0 ⟨#[97, 47, 98]⟩ 511) = (tA2, 0) := by
 rw [orFail_ok _ (by decide)]
 have hmy : mayE tA1 2 128 = 0 := by decide
 have hfr : freeR tA1 1 ⟨#[97, 47, 98]⟩ true = (⟨0, 2, ⟨#[98]⟩⟩, 0) := by
  unfold freeR
  rw [tA_find_b1, if_neg (by simp), if_neg (by simp), if_neg (by simp), hmy]
 obtain ⟨g1, g2, g3⟩ := made_go (d := tA1) (room := 100) (kind := 2) (m := freshM 511 0) (s := ⟨#[]⟩) (at' := 2) (nm := ⟨#[98]⟩) hI (by decide) (by decide) (by decide) (by decide) (by decide) (by decide) (by decide) (by decide) (by decide) (by decide)
 obtain ⟨h1, h2, h3⟩ := made_ok (p := ⟨0, 2, ⟨#[98]⟩⟩) hI hcl g1 g2 g3
 unfold mkdirR
 rw [hfr, if_neg (by simp)]
 refine Prod.ext (nds_ext (by rw [h2]; rfl) fun j => ?_) h1
 show nd (madeR tA1 100 ⟨0, 2, ⟨#[98]⟩⟩ 2 (freshM 511 0) ⟨#[]⟩).1 j = nd tA2 j
 rw [h3, show freshM 511 0 = 511 by decide]
 by_cases j0 : 0 <= j
 ·obtain ⟨i, rfl⟩ : ∃ i : Nat, j = i := ⟨j.toNat, by omega⟩
  match i with
  | 0 => rfl
  | 1 => rfl
  | 2 => rfl
  | 3 => rfl
  | i + 4 =>
    rw [if_neg (by show ¬ ((i + 4 : Nat) : Int) = ((3 : Nat) : Int); omega), if_neg (by show ¬ ((i + 4 : Nat) : Int) = 2; omega), nd_gone (by show ¬ (0 <= ((i + 4 : Nat) : Int) ∧ ((i + 4 : Nat) : Int).toNat < 3); omega), nd_gone (by show ¬ (0 <= ((i + 4 : Nat) : Int) ∧ ((i + 4 : Nat) : Int).toNat < 4); omega)]
 ·rw [if_neg (by show ¬ j = ((3 : Nat) : Int); omega), if_neg (by show ¬ j = 2; omega), nd_gone (by omega), nd_gone (by omega)]
theorem tA_thr_a2 (fl : Bool) : thrR tA2 1 ⟨#[97]⟩ fl = (⟨2, 1, ⟨#[97]⟩⟩, 0) := by
 have n1 : nd tA2 1 = ⟨2, 493, 0, ⟨#[]⟩, [(⟨#[97]⟩, 2)]⟩ := rfl
 have := find_1 (d := tA2) (up := upC tA2) (s := ⟨#[97]⟩) (a := ⟨#[97]⟩) (follow := fl) (by decide) (by decide) (by decide) (by decide) (by decide) (by decide) (by decide) (by decide) (fun k hk => by
  rw [n1] at hk
  have : k = 2 := (Option.some.inj ((show entGet [((⟨#[97]⟩ : ByteArray), (2 : Int))] ⟨#[97]⟩ = some 2 by decide).symm.trans hk)).symm
  rw [this]; decide) 40 0
 rw [n1, show entGet [((⟨#[97]⟩ : ByteArray), (2 : Int))] ⟨#[97]⟩ = some 2 by decide] at this
 unfold thrR fndR
 rw [this]
 unfold thereR
 rw [if_neg (by simp), if_neg (by simp)]
 rfl
theorem tA_thr_b2 (fl : Bool) : thrR tA2 1 ⟨#[97, 47, 98]⟩ fl = (⟨3, 2, ⟨#[98]⟩⟩, 0) := by
 have n2 : nd tA2 2 = ⟨2, 511, 0, ⟨#[]⟩, [(⟨#[98]⟩, 3)]⟩ := rfl
 have := find_2 (d := tA2) (up := upC tA2) (s := ⟨#[97, 47, 98]⟩) (a := ⟨#[97]⟩) (b := ⟨#[98]⟩) (follow := fl) (by decide) (by decide) (by decide) (by decide) (by decide) (by decide) (by decide) (by decide) (by decide) (by decide) (by decide) (k := 2) (by decide) (by decide) (by decide) (by decide) (fun j hk => by
  rw [n2] at hk
  have : j = 3 := (Option.some.inj ((show entGet [((⟨#[98]⟩ : ByteArray), (3 : Int))] ⟨#[98]⟩ = some 3 by decide).symm.trans hk)).symm
  rw [this]; decide) 40 0
 rw [n2, show entGet [((⟨#[98]⟩ : ByteArray), (3 : Int))] ⟨#[98]⟩ = some 3 by decide] at this
 unfold thrR fndR
 rw [this]
 unfold thereR
 rw [if_neg (by simp), if_neg (by simp)]
 rfl
theorem tA_ls : lstE tA2 (thrR tA2 1 ⟨#[97]⟩ true) = 0 ∧ (nd tA2 (thrR tA2 1 ⟨#[97]⟩ true).1.node).ents = [(⟨#[98]⟩, 3)] ∧ statE tA2 (thrR tA2 1 ⟨#[97]⟩ false) = 0 ∧ (thrR tA2 1 ⟨#[97]⟩ false).1.node = 2 ∧
 statV tA2 (thrR tA2 1 ⟨#[97]⟩ false) = .agg #[.int .i64 2, .int .i64 511, .int .i64 1, .int .i64 0, .int .i64 1] ∧ (∀ e ∈ [((⟨#[98]⟩ : ByteArray), (3 : Int))], e.1.size <= 255 ∧ 1 <= e.1.size ∧ ¬ e.1.data.toList[0]? = some 46 ∧ statE tA2 (thrR tA2 1 (joinB ⟨#[97]⟩ e.1) false) = 0) ∧
 outL ⟨#[]⟩ [(⟨#[98]⟩, 3)] = ⟨#[98, 10]⟩ := by
 rw [tA_thr_a2, tA_thr_a2]
 refine ⟨by decide, by decide, by decide, rfl, ?_, fun e he => ?_, by decide⟩
 ·rfl
 ·rw [List.mem_singleton.1 he, show joinB ⟨#[97]⟩ ((⟨#[98]⟩ : ByteArray), (3 : Int)).1 = ⟨#[97, 47, 98]⟩ by decide, tA_thr_b2]
  exact ⟨by decide, by decide, by decide, by decide⟩
def tB (m : Int) : Nds := [Nd.gone, ⟨2, 493, 0, ⟨#[]⟩, [(⟨#[100]⟩, 2)]⟩, ⟨2, m, 0, ⟨#[]⟩, []⟩]
theorem tB_find0 (fl : Bool) : fndR tA0 1 ⟨#[100]⟩ fl = (⟨0, 1, ⟨#[100]⟩⟩, 0) := by
 have n1 : nd tA0 1 = rootNd := by rw [tA0, nd_new, if_pos rfl]
 have := find_1 (d := tA0) (up := upC tA0) (s := ⟨#[100]⟩) (a := ⟨#[100]⟩) (follow := fl) (by decide) (by decide) (by decide) (by decide) (by decide) (by decide) (by decide) (by decide) (fun k hk => by rw [n1] at hk; cases hk) 40 0
 rw [n1] at this
 exact this
theorem tB_mk (hI : DInv tA0) (hcl : NoGarb tA0) : orFail 0 (-1) tA0 (mkdirR tA0 65536 1 0 ⟨#[100]⟩ 511) = (tB 511, 0) := by
 rw [orFail_ok _ (by decide)]
 have hmy : mayE tA0 1 128 = 0 := by decide
 have hfr : freeR tA0 1 ⟨#[100]⟩ true = (⟨0, 1, ⟨#[100]⟩⟩, 0) := by
  unfold freeR
  rw [tB_find0, if_neg (by simp), if_neg (by simp), if_neg (by simp), hmy]
 obtain ⟨g1, g2, g3⟩ := made_go (d := tA0) (room := 65536) (kind := 2) (m := freshM 511 0) (s := ⟨#[]⟩) (at' := 1) (nm := ⟨#[100]⟩) hI (by decide) (by decide) (by decide) (by decide) (by decide) (by decide) (by decide) (by decide) (by decide) (by decide)
 obtain ⟨h1, h2, h3⟩ := made_ok (p := ⟨0, 1, ⟨#[100]⟩⟩) hI hcl g1 g2 g3
 unfold mkdirR
 rw [hfr, if_neg (by simp)]
 refine Prod.ext (nds_ext (by rw [h2]; rfl) fun j => ?_) h1
 show nd (madeR tA0 65536 ⟨0, 1, ⟨#[100]⟩⟩ 2 (freshM 511 0) ⟨#[]⟩).1 j = nd (tB 511) j
 rw [h3, show freshM 511 0 = 511 by decide]
 by_cases j0 : 0 <= j
 ·obtain ⟨i, rfl⟩ : ∃ i : Nat, j = i := ⟨j.toNat, by omega⟩
  match i with
  | 0 => rfl
  | 1 => rfl
  | 2 => rfl
  | i + 3 =>
    rw [if_neg (by show ¬ ((i + 3 : Nat) : Int) = ((2 : Nat) : Int); omega), if_neg (by show ¬ ((i + 3 : Nat) : Int) = 1; omega), nd_gone (by show ¬ (0 <= ((i + 3 : Nat) : Int) ∧ ((i + 3 : Nat) : Int).toNat < 2); omega), nd_gone (by show ¬ (0 <= ((i + 3 : Nat) : Int) ∧ ((i + 3 : Nat) : Int).toNat < 3); omega)]
 ·rw [if_neg (by show ¬ j = ((2 : Nat) : Int); omega), if_neg (by show ¬ j = 1; omega), nd_gone (by omega), nd_gone (by omega)]
theorem tB_thr (m : Int) (fl : Bool) : thrR (tB m) 1 ⟨#[100]⟩ fl = (⟨2, 1, ⟨#[100]⟩⟩, 0) := by
 have n1 : nd (tB m) 1 = ⟨2, 493, 0, ⟨#[]⟩, [(⟨#[100]⟩, 2)]⟩ := rfl
 have := find_1 (d := tB m) (up := upC (tB m)) (s := ⟨#[100]⟩) (a := ⟨#[100]⟩) (follow := fl) (by unfold intoErr folderErr; rw [n1]; decide) (by decide) (by decide) (by decide) (by decide) (by decide) (by decide) (by decide) (fun k hk => by
  rw [n1] at hk
  have : k = 2 := (Option.some.inj ((show entGet [((⟨#[100]⟩ : ByteArray), (2 : Int))] ⟨#[100]⟩ = some 2 by decide).symm.trans hk)).symm
  rw [this]
  show (2 : Int) ≠ 3
  decide) 40 0
 rw [n1, show entGet [((⟨#[100]⟩ : ByteArray), (2 : Int))] ⟨#[100]⟩ = some 2 by decide] at this
 unfold thrR fndR
 rw [this]
 unfold thereR
 rw [if_neg (by simp), if_neg (by simp)]
 rfl
theorem tB_stat (m : Int) (fl : Bool) : (thrR (tB m) 1 ⟨#[100]⟩ fl).1.node = 2 ∧ statE (tB m) (thrR (tB m) 1 ⟨#[100]⟩ fl) = 0 ∧
 statV (tB m) (thrR (tB m) 1 ⟨#[100]⟩ fl) = .agg #[.int .i64 2, .int .i64 m, .int .i64 1, .int .i64 0, .int .i64 0] := by
 rw [tB_thr]
 have hh : has (tB m) 2 := by unfold has; show (2 : Int) ≠ 0; decide
 refine ⟨rfl, ?_, ?_⟩
 ·unfold statE
  rw [if_neg (by simp), if_pos hh]
 ·unfold statV infoAt
  rw [if_neg (by simp), if_pos hh]
  rfl
theorem tB_chmod (m : Int) (hm : okMode m = true) : orFail 1 (-1) (tB 511) (chmR (tB 511) 1 ⟨#[100]⟩ m) = (tB m, 0) := by
 rw [orFail_ok _ (by decide)]
 unfold chmR
 rw [tB_thr, if_neg (by simp)]
 have he : chmodErr (tB 511) 2 m = 0 := by unfold chmodErr; rw [if_neg (by decide), if_pos hm]
 show (chmodD (tB 511) 2 m, chmodErr (tB 511) 2 m) = _
 unfold chmodD
 rw [he, if_pos rfl]
 rfl
end Go.Proofs.YtimidmogcbapnaaGreatDoor
