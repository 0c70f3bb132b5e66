/-
  Layer 23: the directories above a path; mkdir -p of two. (Printed by gentool.py.)
-/
import Derived.Test.YtimidmogcbapnaaGreatDoorG19
import Derived.StillTailTactics
import Derived.Test.YtimidmogcbapnaaGreatDoorG12
import Derived.Laws.Bits64b

set_option linter.unusedSimpArgs false
set_option linter.unusedVariables false
set_option maxRecDepth 100000
set_option maxHeartbeats 8000000
namespace Go.Proofs.YtimidmogcbapnaaGreatDoor
open Go Go.RowKit
section
variable {W w : World} {Q : Nat -> Prop} {B F a : Nat} {d d' : Nds} {room calls fail at' mask st : Int} {name out err : ByteArray} {iv : Value}
theorem parents_one {s x : ByteArray} (h : TW W Q w B F a d room calls fail (wkC name F at' mask iv out err st)) (hs1 : 1 <= s.size) (hs2 : s.size <= 1000) (hse : endS s = false) (hab : abvL s s.size = [x]) (hx0 : ¬ x = ⟨#[]⟩) (hxs : x.size <= 1000)
 (hc0 : 0 <= calls) (hc1 : calls <= 4611686018427387904) (hb : mass d + 3 <= 2147483648)
 {n im il ih iz ik : Int} (hn : (thrR d at' x true).1.node = n) (hV : statV d (thrR d at' x true) = .agg #[.int .i64 ik, .int .i64 im, .int .i64 il, .int .i64 ih, .int .i64 iz]) (hE : statE d (thrR d at' x true) = 12) :
 Calls Tryz.prog 67 #[.pointer (some ⟨B, 0, none⟩), .string s] w fun e w' => e = .returned (.tuple #[]) ∧ TW W Q w' B F a (orFail calls fail d (mkdirR d room at' mask x 511)).1 room (calls + 1) fail (wkC name F at' mask iv out err st) ∧ Keeps (Lw W Q) w w' := by
 have HT := Lib.hid h
 have HV := Lib.hid hV
 have HE := Lib.hid hE
 have hxz := notEmpty_eq hx0
 have hxz2 : x.toList.isEmpty = false := by simpa using hxz
 have HTr := Lib.hid (fun w1 : World => trim_same s w1 hs1 (by omega) hse)
 have HAb := Lib.hid (fun w1 : World => above_any s w1 (by omega))
 rw [hab] at HAb
 have HM := Lib.hid (fun (w1 : World) (k : TW W Q w1 B F a d room calls fail (wkC name F at' mask iv out err st)) => k.call (fun N hN => mkdir_any hN hc0 hc1 hb at' mask x 511 (by omega)))
 have hsz : x.size <= 4294967280 := by omega
 have HSz := Lib.hid hsz
 obtain ⟨d1, hd1⟩ : ∃ d1, (orFail calls fail d (mkdirR d room at' mask x 511)).1 = d1 := ⟨_, rfl⟩
 rw [hd1] at HM ⊢
 have HBl := Lib.hid h.bx.lt
 have HLo := Lib.hid h.low
 clear h hV hE hse hab hx0 hd1 hxz
 go_enter Tryz.func67, Tryz.ntmps67
 go_wp2_with (first | (go_at_call 100; go_loud (refine (HTr.out _).mono ?_); rintro e w1 ⟨rfl, rfl⟩) | (go_at_call 101; go_loud (refine (HAb.out _).mono ?_); rintro e w2 ⟨v, rfl, ho2, hk2⟩; obtain ⟨vp, vc, rfl, _⟩ := ho2.sl))
 have HT2 := Lib.hid (HT.out.on hk2)
 have HO2 := Lib.hid ho2
 have HK2 := Lib.hid hk2
 clear ho2 hk2
 go_loopw [14] (fun i wr => (i = .int .i64 0 ∧ wr = w2) ∨ (i = .int .i64 1 ∧ TW W Q wr B F a d1 room (calls + 1) fail (wkC name F at' mask iv out err st) ∧ Keeps (Lw W Q) w wr)) (fun i _ => 2 - (intOf i).toNat)
 case atStart => exact .inl ⟨rfl, rfl⟩
 case round =>
  rcases hrel with ⟨rfl, hw⟩ | ⟨rfl, ht, hk⟩
  ·subst hw
   obtain ⟨vg, vo, hvp, _, _, c0⟩ := (HO2.out.at).str (i := 0) (x := x) rfl
   subst hvp
   have hcp := (HO2.out.at).cap
   have hmx := (HO2.out.at).max
   unfold maxLen at hmx
   have c1 : wr.cell? ⟨vg, vo, none⟩ = some (.string x) := c0
   clear c0
   have HSt := Lib.hid (fun (w1 : World) (k : Keeps NoB wr w1) => (HT2.out.fx.on k).asks fun N hN => stat_any hN at' mask x true HSz.out)
   rw [HV.out, HE.out, hn] at HSt
   clear hn
   have f0 := HT2.out.bx.cell 1 _ rfl
   have b0 := HT2.out.bx.cell 2 _ rfl
   have b1 := HT2.out.bx.cell 3 _ rfl
   have fl := HT2.out.bx.lt
   go_upto_region 5 with fail
   go_cut [6, 7, 8] from 20 to 33 (fun x y z wx => ∃ G : Nat, wr.heap.size <= G ∧ x = .int .i64 n ∧ y = .pointer (some ⟨G, 0, none⟩) ∧ z = .int .i64 12 ∧ Bx wx G [.int .i64 ik, .int .i64 im, .int .i64 il, .int .i64 ih, .int .i64 iz] ∧ Keeps NoB wr wx)
   case first =>
    have kr := Keeps.refl NoB wr
    have krd := kr.drew
    have d0 := (HT2.out.on krd).bx.cell 1 _ rfl
    have d1 := (HT2.out.on krd).bx.cell 2 _ rfl
    have d2 := (HT2.out.on krd).bx.cell 3 _ rfl
    go_region_held3 (fun wz => wz.cell? ⟨B, 1, none⟩ = some (.pointer (some ⟨F, 0, none⟩)) ∧ wz.cell? ⟨B, 2, none⟩ = some (.int .i64 at') ∧ wz.cell? ⟨B, 3, none⟩ = some (.int .i64 mask) ∧ Keeps NoB wr wz) (refine ⟨?_, ?_, ?_, ?_⟩ <;> first | with_reducible assumption | (with_reducible refine (HT2.out.on ?_).bx.cell 1 _ rfl; (repeat (first | with_reducible assumption | (with_reducible exact Keeps.refl _ _) | (with_reducible refine Keeps.drew ?_) | (with_reducible refine Keeps.drewN ?_ _) | (with_reducible refine Keeps.alloc ?_ _) | (with_reducible refine Keeps.setCell ?_ (by first | exact Or.inl rfl | exact Or.inr (Nat.le_refl _) | exact Or.inr (by first | (simp; done) | (simp; omega))) _))); done) | (with_reducible refine (HT2.out.on ?_).bx.cell 2 _ rfl; (repeat (first | with_reducible assumption | (with_reducible exact Keeps.refl _ _) | (with_reducible refine Keeps.drew ?_) | (with_reducible refine Keeps.drewN ?_ _) | (with_reducible refine Keeps.alloc ?_ _) | (with_reducible refine Keeps.setCell ?_ (by first | exact Or.inl rfl | exact Or.inr (Nat.le_refl _) | exact Or.inr (by first | (simp; done) | (simp; omega))) _))); done) | (with_reducible refine (HT2.out.on ?_).bx.cell 3 _ rfl; (repeat (first | with_reducible assumption | (with_reducible exact Keeps.refl _ _) | (with_reducible refine Keeps.drew ?_) | (with_reducible refine Keeps.drewN ?_ _) | (with_reducible refine Keeps.alloc ?_ _) | (with_reducible refine Keeps.setCell ?_ (by first | exact Or.inl rfl | exact Or.inr (Nat.le_refl _) | exact Or.inr (by first | (simp; done) | (simp; omega))) _))); done) | ((repeat (first | with_reducible assumption | (with_reducible exact Keeps.refl _ _) | (with_reducible refine Keeps.drew ?_) | (with_reducible refine Keeps.drewN ?_ _) | (with_reducible refine Keeps.alloc ?_ _) | (with_reducible refine Keeps.setCell ?_ (by first | exact Or.inl rfl | exact Or.inr (Nat.le_refl _) | exact Or.inr (by first | (simp; done) | (simp; omega))) _))); done))
     (first | (go_at_call 12; refine (HSt.out _ (by (repeat (first | with_reducible assumption | (with_reducible exact Keeps.refl _ _) | (with_reducible refine Keeps.drew ?_) | (with_reducible refine Keeps.drewN ?_ _) | (with_reducible refine Keeps.alloc ?_ _) | (with_reducible refine Keeps.setCell ?_ (by first | exact Or.inl rfl | exact Or.inr (Nat.le_refl _) | exact Or.inr (by first | (simp; done) | (simp; omega))) _))))).mono ?_; rintro e w2 ⟨rfl, hk2⟩; have zky : Keeps NoB wr w2 := Keeps.trans (by (repeat (first | with_reducible assumption | (with_reducible exact Keeps.refl _ _) | (with_reducible refine Keeps.drew ?_) | (with_reducible refine Keeps.drewN ?_ _) | (with_reducible refine Keeps.alloc ?_ _) | (with_reducible refine Keeps.setCell ?_ (by first | exact Or.inl rfl | exact Or.inr (Nat.le_refl _) | exact Or.inr (by first | (simp; done) | (simp; omega))) _)))) hk2; have zs := zky.size; have z0 := (HT2.out.on zky).bx.cell 1 _ rfl; have z1 := (HT2.out.on zky).bx.cell 2 _ rfl; have z2 := (HT2.out.on zky).bx.cell 3 _ rfl; (try (have yb := Bx.newD hk2; have y0 := yb.cell 0 _ rfl; have y1 := yb.cell 1 _ rfl; have y2 := yb.cell 2 _ rfl; have y3 := yb.cell 3 _ rfl; have y4 := yb.cell 4 _ rfl; have yf := yb.fz))))
    all_goals (go_wp2_with fail; go_meet; refine ⟨_, ?_, rfl, rfl, rfl, ?_, ?_⟩)
    all_goals first
     | exact Nat.le_refl _
     | exact zs
     | (with_reducible exact Bx.new (Keeps.refl NoB _))
     | (exact ((((yb.put 0 _).put 1 _).put 2 _).put 3 _).put 4 _)
     | ((repeat (first | with_reducible assumption | (with_reducible exact Keeps.refl _ _) | (with_reducible refine Keeps.drew ?_) | (with_reducible refine Keeps.drewN ?_ _) | (with_reducible refine Keeps.alloc ?_ _) | (with_reducible refine Keeps.setCell ?_ (by first | exact Or.inl rfl | exact Or.inr (Nat.le_refl _) | exact Or.inr (by first | (simp; done) | (simp; omega))) _))); done)
     | skip
   case rest =>
    obtain ⟨HIB, hG, rfl, rfl, rfl, HI, hk⟩ := hcut
    replace HI := Lib.hid HI
    have HK := Lib.hid hk
    have HG := Lib.hid hG
    replace HT2 := Lib.hid (HT2.out.on hk)
    clear f0 b0 b1 fl HSt hG hk
    go_upto_region 7 with fail
    have hd := HT2.out.on (Keeps.refl NoB _).drew
    have HD := Lib.hid hd
    have HM7 := Lib.hid (HM.out _ hd)
    have g0 := HT2.out.bx.cell 1 _ rfl
    have g1 := HT2.out.bx.cell 2 _ rfl
    have g2 := HT2.out.bx.cell 3 _ rfl
    have f0 := hd.bx.cell 1 _ rfl
    have f1 := hd.bx.cell 2 _ rfl
    have f2 := hd.bx.cell 3 _ rfl
    have fl := hd.bx.lt
    clear hd
    go_still_tail 9, (by kernel_rfl)
    change wpList _ _ _ _ _ (World.drew _)
    go_wp2_with (go_at_call 15; go_loud (refine HM7.out.mono ?_); rintro e w5 ⟨rfl, ht5, hk5⟩)
    go_roundw
    case rel =>
     refine .inr ⟨by go_num, ht5, ?_⟩
     exact ((HK2.out.trans HK.out).drew.of_none).trans (gd_low hk5)
    case measure => simp [intOf]
  ·go_wp2_with fail
   go_end0
   exact ⟨rfl, ht, hk⟩
end
theorem slhm (s : ByteArray) (w : World) (hs : s = ⟨#[112]⟩ ∨ s = ⟨#[]⟩) :
 Calls Tryz.prog 85 #[.string s, .string ⟨#[109]⟩] w fun e w' => e = .returned (.bool false) ∧ w = w' := by
 rcases hs with rfl | rfl
 all_goals
  go_enter Tryz.func85, Tryz.ntmps85
  go_wp2
  go_ret
  exact ⟨by first | rfl | exact ret_bool (by rw [Lib.toList_data]; decide), rfl⟩
theorem hsm (s : ByteArray) (w : World) (hs : s = ⟨#[112]⟩ ∨ s = ⟨#[]⟩) :
 Calls Tryz.prog 45 #[.string s, .string ⟨#[109]⟩] w fun e w' => e = .returned (.bool false) ∧ w = w' := by
 have H := Lib.hid (slhm s w hs)
 clear hs
 go_enter Tryz.func45, Tryz.ntmps45
 go_wp2_with (go_at_call 85; refine H.out.mono ?_; rintro e w' ⟨rfl, rfl⟩)
 go_ret
 exact ⟨rfl, rfl⟩
section
variable {W w : World} {Q : Nat -> Prop} {B F a : Nat} {d d' : Nds} {room calls fail at' mask st : Int} {name out err : ByteArray} {iv : Value}
theorem mkdir_p {S : Nat -> Prop} {p : Option Addr} {c : Nat} {s x : ByteArray} (h : TW W Q w B F a d room calls fail (wkC name F at' mask iv out err st)) (hA : SlAt encStr S w p c [⟨#[45, 112]⟩, s]) (hf : noFlag s = true)
 (hs1 : 1 <= s.size) (hs2 : s.size <= 1000) (hse : endS s = false) (hab : abvL s s.size = [x]) (hx0 : ¬ x = ⟨#[]⟩) (hxs : x.size <= 1000)
 (hc0 : 0 <= calls) (hc1 : calls + 1 <= 4611686018427387904) (hb : mass d + 3 <= 2147483648)
 {n im il ih iz ik : Int} (hn : (thrR d at' x true).1.node = n) (hV : statV d (thrR d at' x true) = .agg #[.int .i64 ik, .int .i64 im, .int .i64 il, .int .i64 ih, .int .i64 iz]) (hE : statE d (thrR d at' x true) = 12)
 {d1 d2 : Nds} (hd1 : (orFail calls fail d (mkdirR d room at' mask x 511)).1 = d1) (hb1 : mass d1 + 3 <= 2147483648)
 {n2 km kl kh kz kk : Int} (hn2 : (thrR d1 at' s true).1.node = n2) (hV2 : statV d1 (thrR d1 at' s true) = .agg #[.int .i64 kk, .int .i64 km, .int .i64 kl, .int .i64 kh, .int .i64 kz]) (hE2 : statE d1 (thrR d1 at' s true) = 12)
 (hd2 : DInv d1 -> NoGarb d1 -> orFail (calls + 1) fail d1 (mkdirR d1 room at' mask s 511) = (d2, 0)) :
 Calls Tryz.prog 31 #[.pointer (some ⟨B, 0, none⟩), .slice p 2 c] w fun e w' => e = .returned (.tuple #[]) ∧ TW W Q w' B F a d2 room (calls + 1 + 1) fail (wkC name F at' mask iv out err st) ∧ Keeps (Lw W Q) w w' := by
 have HT := Lib.hid h
 have HV2 := Lib.hid hV2
 have HE2 := Lib.hid hE2
 have HF := Lib.hid (flags_one hA ⟨#[112, 109]⟩ (by decide) (by decide) (by decide) (by decide) (by decide) (fun y hy => by cases hy; exact hf))
 rw [show (⟨#[45, 112]⟩ : ByteArray).extract 1 (ByteArray.size ⟨#[45, 112]⟩) = ⟨#[112]⟩ by decide] at HF
 simp only [List.length_cons, List.length_nil, Nat.zero_add] at HF
 have hsub := hA.sub 1 2 (by omega) (by simp)
 rw [show ([(⟨#[45, 112]⟩ : ByteArray), s].take 2).drop 1 = [s] from rfl] at hsub
 obtain ⟨vg, vo, hvp, hvS, hvl, c0⟩ := hsub.str (i := 0) (x := s) rfl
 have hcp := hsub.cap
 have hmx := hsub.max
 unfold maxLen at hmx
 rw [show encStr.k = 1 from rfl] at hvp
 rw [hvp] at HF
 have HC0 : Hid (w.cell? ⟨vg, vo, none⟩ = some (.string s)) := c0
 have HP := Lib.hid (fun (w1 : World) (k : TW W Q w1 B F a d room calls fail (wkC name F at' mask iv out err st)) => parents_one k hs1 hs2 hse hab hx0 hxs hc0 (by omega) hb hn hV hE)
 rw [hd1] at HP
 have HM : Hid (∀ w1 : World, TW W Q w1 B F a d1 room (calls + 1) fail (wkC name F at' mask iv out err st) -> Calls Tryz.prog 15 #[.pointer (some ⟨F, 0, none⟩), .agg #[.int .i64 at', .int .i64 mask], .string s, .int .i64 511] w1 fun e w' => e = .returned (.int .i64 0) ∧ TW W Q w' B F a d2 room (calls + 1 + 1) fail (wkC name F at' mask iv out err st) ∧ Keeps (Gd W Q B) w1 w') := Lib.hid fun w1 k => by
  have := k.call (fun N hN => mkdir_any hN (by omega) hc1 hb1 at' mask s 511 (by omega))
  rw [hd2 k.fx.inv k.fx.clean] at this
  exact this
 have hsz : s.size <= 4294967280 := by omega
 have HSz := Lib.hid hsz
 have HSf := Lib.hid (fun w1 : World => hsm ⟨#[112]⟩ w1 (.inl rfl))
 have HI1 := Lib.hid (fun wx => ib_any ⟨#[112]⟩ 109 wx)
 rw [show bIdx (⟨#[112]⟩ : ByteArray) ((109 : Int)).toNat.toUInt8 = -1 by decide] at HI1
 have HI2 := Lib.hid (fun wx => ib_any ⟨#[112]⟩ 112 wx)
 rw [show bIdx (⟨#[112]⟩ : ByteArray) ((112 : Int)).toNat.toUInt8 = 0 by decide] at HI2
 have HWr := Lib.hid (fun w1 : World => wrong_ok (B := B) 1 w1)
 generalize c - 1 = cc at *
 clear h hA hsub hvp hvS hvl c0 hV hE hV2 hE2 hf hse hab hx0 hd1 hd2 hn hs1 hxs hc0 hc1 hb hb1 hsz
 go_enter Tryz.func31, Tryz.ntmps31
 go_upto_region 8 with (first | (go_at_call 65; go_loud (refine HF.out.mono ?_); rintro e w1 ⟨rfl, hk1⟩) | (go_at_call 45; go_loud (refine (HSf.out _).mono ?_); rintro e w2 ⟨rfl, rfl⟩) | (go_at_call 42; go_loud (refine (HI1.out _).mono ?_); rintro e w3 ⟨rfl, rfl⟩))
 clear HF HSf HI1
 have HT1 := Lib.hid (HT.out.on hk1)
 have HK1 := Lib.hid hk1
 have HC1 : Hid (w1.cell? ⟨vg, vo, none⟩ = some (.string s)) := (hk1.cell (p := ⟨vg, vo, none⟩) (lt_of_cell HC0.out) (fun h => h)).trans HC0.out
 clear hk1 HT
 go_wp2_with fail
 go_loopw [69] (fun i wr => (i = .int .i64 0 ∧ wr = w1) ∨ (i = .int .i64 1 ∧ TW W Q wr B F a d2 room (calls + 1 + 1) fail (wkC name F at' mask iv out err st) ∧ Keeps (Lw W Q) w wr)) (fun i _ => 2 - (intOf i).toNat)
 case atStart => exact .inl ⟨rfl, rfl⟩
 case round =>
  rcases hrel with ⟨rfl, hw⟩ | ⟨rfl, ht, hk⟩
  ·subst hw
   have c1 := HC1.out
   go_upto_region 13 with (first | (go_at_call 42; go_loud (refine (HI2.out _).mono ?_); rintro e w3 ⟨rfl, rfl⟩) | (go_at_call 67; go_loud (refine (HP.out _ HT1.out).mono ?_); rintro e w4 ⟨rfl, ht4, hk4⟩))
   have HT4 := Lib.hid ht4
   have HK4 := Lib.hid hk4
   clear ht4 hk4
   have HSt := Lib.hid (fun (w1 : World) (k : Keeps NoB w4 w1) => (HT4.out.fx.on k).asks fun N hN => stat_any hN at' mask s true HSz.out)
   rw [HV2.out, HE2.out, hn2] at HSt
   clear hn2
   have f0 := HT4.out.bx.cell 1 _ rfl
   have b0 := HT4.out.bx.cell 2 _ rfl
   have b1 := HT4.out.bx.cell 3 _ rfl
   have fl := HT4.out.bx.lt
   go_upto_region 13 with fail
   go_cut [11, 12, 13] from 79 to 92 (fun x y z wx => ∃ G : Nat, w4.heap.size <= G ∧ x = .int .i64 n2 ∧ y = .pointer (some ⟨G, 0, none⟩) ∧ z = .int .i64 12 ∧ Bx wx G [.int .i64 kk, .int .i64 km, .int .i64 kl, .int .i64 kh, .int .i64 kz] ∧ Keeps NoB w4 wx)
   case first =>
    have kr := Keeps.refl NoB w4
    have krd := kr.drew
    have d0 := (HT4.out.on krd).bx.cell 1 _ rfl
    have d1 := (HT4.out.on krd).bx.cell 2 _ rfl
    have d2 := (HT4.out.on krd).bx.cell 3 _ rfl
    go_region_held3 (fun wz => wz.cell? ⟨B, 1, none⟩ = some (.pointer (some ⟨F, 0, none⟩)) ∧ wz.cell? ⟨B, 2, none⟩ = some (.int .i64 at') ∧ wz.cell? ⟨B, 3, none⟩ = some (.int .i64 mask) ∧ Keeps NoB w4 wz) (refine ⟨?_, ?_, ?_, ?_⟩ <;> first | with_reducible assumption | (with_reducible refine (HT4.out.on ?_).bx.cell 1 _ rfl; (repeat (first | with_reducible assumption | (with_reducible exact Keeps.refl _ _) | (with_reducible refine Keeps.drew ?_) | (with_reducible refine Keeps.drewN ?_ _) | (with_reducible refine Keeps.alloc ?_ _) | (with_reducible refine Keeps.setCell ?_ (by first | exact Or.inl rfl | exact Or.inr (Nat.le_refl _) | exact Or.inr (by first | (simp; done) | (simp; omega))) _))); done) | (with_reducible refine (HT4.out.on ?_).bx.cell 2 _ rfl; (repeat (first | with_reducible assumption | (with_reducible exact Keeps.refl _ _) | (with_reducible refine Keeps.drew ?_) | (with_reducible refine Keeps.drewN ?_ _) | (with_reducible refine Keeps.alloc ?_ _) | (with_reducible refine Keeps.setCell ?_ (by first | exact Or.inl rfl | exact Or.inr (Nat.le_refl _) | exact Or.inr (by first | (simp; done) | (simp; omega))) _))); done) | (with_reducible refine (HT4.out.on ?_).bx.cell 3 _ rfl; (repeat (first | with_reducible assumption | (with_reducible exact Keeps.refl _ _) | (with_reducible refine Keeps.drew ?_) | (with_reducible refine Keeps.drewN ?_ _) | (with_reducible refine Keeps.alloc ?_ _) | (with_reducible refine Keeps.setCell ?_ (by first | exact Or.inl rfl | exact Or.inr (Nat.le_refl _) | exact Or.inr (by first | (simp; done) | (simp; omega))) _))); done) | ((repeat (first | with_reducible assumption | (with_reducible exact Keeps.refl _ _) | (with_reducible refine Keeps.drew ?_) | (with_reducible refine Keeps.drewN ?_ _) | (with_reducible refine Keeps.alloc ?_ _) | (with_reducible refine Keeps.setCell ?_ (by first | exact Or.inl rfl | exact Or.inr (Nat.le_refl _) | exact Or.inr (by first | (simp; done) | (simp; omega))) _))); done))
     (first | (go_at_call 12; refine (HSt.out _ (by (repeat (first | with_reducible assumption | (with_reducible exact Keeps.refl _ _) | (with_reducible refine Keeps.drew ?_) | (with_reducible refine Keeps.drewN ?_ _) | (with_reducible refine Keeps.alloc ?_ _) | (with_reducible refine Keeps.setCell ?_ (by first | exact Or.inl rfl | exact Or.inr (Nat.le_refl _) | exact Or.inr (by first | (simp; done) | (simp; omega))) _))))).mono ?_; rintro e w2 ⟨rfl, hk2⟩; have zky : Keeps NoB w4 w2 := Keeps.trans (by (repeat (first | with_reducible assumption | (with_reducible exact Keeps.refl _ _) | (with_reducible refine Keeps.drew ?_) | (with_reducible refine Keeps.drewN ?_ _) | (with_reducible refine Keeps.alloc ?_ _) | (with_reducible refine Keeps.setCell ?_ (by first | exact Or.inl rfl | exact Or.inr (Nat.le_refl _) | exact Or.inr (by first | (simp; done) | (simp; omega))) _)))) hk2; have zs := zky.size; have z0 := (HT4.out.on zky).bx.cell 1 _ rfl; have z1 := (HT4.out.on zky).bx.cell 2 _ rfl; have z2 := (HT4.out.on zky).bx.cell 3 _ rfl; (try (have yb := Bx.newD hk2; have y0 := yb.cell 0 _ rfl; have y1 := yb.cell 1 _ rfl; have y2 := yb.cell 2 _ rfl; have y3 := yb.cell 3 _ rfl; have y4 := yb.cell 4 _ rfl; have yf := yb.fz))))
    all_goals (go_wp2_with fail; go_meet; refine ⟨_, ?_, rfl, rfl, rfl, ?_, ?_⟩)
    all_goals first
     | exact Nat.le_refl _
     | exact zs
     | (with_reducible exact Bx.new (Keeps.refl NoB _))
     | (exact ((((yb.put 0 _).put 1 _).put 2 _).put 3 _).put 4 _)
     | ((repeat (first | with_reducible assumption | (with_reducible exact Keeps.refl _ _) | (with_reducible refine Keeps.drew ?_) | (with_reducible refine Keeps.drewN ?_ _) | (with_reducible refine Keeps.alloc ?_ _) | (with_reducible refine Keeps.setCell ?_ (by first | exact Or.inl rfl | exact Or.inr (Nat.le_refl _) | exact Or.inr (by first | (simp; done) | (simp; omega))) _))); done)
     | skip
   case rest =>
    obtain ⟨HIB2, hG2, rfl, rfl, rfl, HI2, hk2⟩ := hcut
    replace HI2 := Lib.hid HI2
    have HK2 := Lib.hid hk2
    have HG2 := Lib.hid hG2
    replace HT4 := Lib.hid (HT4.out.on hk2)
    clear f0 b0 b1 fl HSt hG2 hk2
    go_upto_region 15 with fail
    have HM7 := Lib.hid (HM.out _ (HT4.out.on (Keeps.refl NoB _).drew))
    have hd := HT4.out.on (Keeps.refl NoB _).drew
    have HD := Lib.hid hd
    have g0 := HT4.out.bx.cell 1 _ rfl
    have g1 := HT4.out.bx.cell 2 _ rfl
    have g2 := HT4.out.bx.cell 3 _ rfl
    have f0 := hd.bx.cell 1 _ rfl
    have f1 := hd.bx.cell 2 _ rfl
    have f2 := hd.bx.cell 3 _ rfl
    have fl := hd.bx.lt
    clear hd
    go_still_tail 9, (by kernel_rfl)
    change wpList _ _ _ _ _ (World.drew _)
    go_wp2_with (first | (go_at_call 15; go_loud (refine HM7.out.mono ?_); rintro e w5 ⟨rfl, ht5, hk5⟩) | (go_at_call 30; go_loud (refine (HWr.out _).mono ?_); rintro e w6 ⟨rfl, rfl⟩))
    go_roundw
    case rel => exact .inr ⟨by go_num, ht5, (((HK1.out.of_none.trans HK4.out).trans HK2.out.of_none).trans (Keeps.refl _ _).drew).trans (gd_low hk5)⟩
    case measure => simp [intOf]
  ·go_wp2_with fail
   go_end0
   exact ⟨rfl, ht, hk⟩
end
section
variable {W w : World} {Q : Nat -> Prop} {B F a : Nat} {d d' : Nds} {room calls calls' fail at' mask st : Int} {name out err : ByteArray} {iv : Value}
theorem results_cell_oneT {fn : Func} {p : Tmp} {ty : TypeId} (h : fn.results = #[.cell p ty]) (tmps : Array Value) (P : Program) (w : World) :
 (results fn tmps).run P w = ((asAddr (tmps.getD p undef)).run P w).andThen fun a w₁ => (loadVar ty a).run P w₁ := by
 simp only [results, h]
 simp [Sem.run_bind, Result.andThen]
theorem run_start (h : FSx W Q w F a d room calls fail) {bt : TypeId} {bv : Value} :
 (fun w3 => TW W (fun g => Q g ∨ g = w.heap.size + 1) w3 (w.heap.size + 1 + 1) F a d room calls fail (wkC name F at' mask (.iface bt bv) ⟨#[]⟩ ⟨#[]⟩ 0) ∧ Bx w3 (w.heap.size + 1) [.string ⟨#[]⟩, .string ⟨#[]⟩, .int .i64 0] ∧ Keeps NoB w w3 ∧ w.heap.size + 2 < w3.heap.size)
   (((w.alloc (.cells #[.int .i64 at', .int .i64 mask] 28)).alloc (.cells #[.string ⟨#[]⟩, .string ⟨#[]⟩, .int .i64 0] 37)).alloc (.cells #[.string name, .pointer (some ⟨F, 0, none⟩), .int .i64 at', .int .i64 mask, .iface bt bv, .string ⟨#[]⟩, .string ⟨#[]⟩, .int .i64 0] 70)) := by
 have k1 : Keeps NoB w (w.alloc (.cells #[.int .i64 at', .int .i64 mask] 28)) := (Keeps.refl _ _).alloc _
 have k2 : Keeps NoB w ((w.alloc (.cells #[.int .i64 at', .int .i64 mask] 28)).alloc (.cells #[.string ⟨#[]⟩, .string ⟨#[]⟩, .int .i64 0] 37)) := k1.alloc _
 have k3 : Keeps NoB w (((w.alloc (.cells #[.int .i64 at', .int .i64 mask] 28)).alloc (.cells #[.string ⟨#[]⟩, .string ⟨#[]⟩, .int .i64 0] 37)).alloc (.cells #[.string name, .pointer (some ⟨F, 0, none⟩), .int .i64 at', .int .i64 mask, .iface bt bv, .string ⟨#[]⟩, .string ⟨#[]⟩, .int .i64 0] 70)) := k2.alloc _
 have z1 : (w.alloc (.cells #[.int .i64 at', .int .i64 mask] 28)).heap.size = w.heap.size + 1 := by simp
 have z2 : ((w.alloc (.cells #[.int .i64 at', .int .i64 mask] 28)).alloc (.cells #[.string ⟨#[]⟩, .string ⟨#[]⟩, .int .i64 0] 37)).heap.size = w.heap.size + 2 := by simp
 have z3 : (((w.alloc (.cells #[.int .i64 at', .int .i64 mask] 28)).alloc (.cells #[.string ⟨#[]⟩, .string ⟨#[]⟩, .int .i64 0] 37)).alloc (.cells #[.string name, .pointer (some ⟨F, 0, none⟩), .int .i64 at', .int .i64 mask, .iface bt bv, .string ⟨#[]⟩, .string ⟨#[]⟩, .int .i64 0] 70)).heap.size = w.heap.size + 3 := by simp
 have hlo := h.keeps.size
 have b2 := Bx.new ((Keeps.refl NoB ((w.alloc (.cells #[.int .i64 at', .int .i64 mask] 28)).alloc (.cells #[.string ⟨#[]⟩, .string ⟨#[]⟩, .int .i64 0] 37))).alloc (.cells #[.string name, .pointer (some ⟨F, 0, none⟩), .int .i64 at', .int .i64 mask, .iface bt bv, .string ⟨#[]⟩, .string ⟨#[]⟩, .int .i64 0] 70))
 have b3 := Bx.new (Keeps.refl NoB (((w.alloc (.cells #[.int .i64 at', .int .i64 mask] 28)).alloc (.cells #[.string ⟨#[]⟩, .string ⟨#[]⟩, .int .i64 0] 37)).alloc (.cells #[.string name, .pointer (some ⟨F, 0, none⟩), .int .i64 at', .int .i64 mask, .iface bt bv, .string ⟨#[]⟩, .string ⟨#[]⟩, .int .i64 0] 70)))
 rw [z1] at b2
 rw [z2] at b3
 refine ⟨⟨h.more k3 (fun g hg => ?_), b3, by omega, fun hq => ?_⟩, b2, k3, by rw [z3]; omega⟩
 ·rcases hg with rfl | hg | rfl
  ·exact .inr ⟨by omega, by rw [z3]; omega⟩
  ·exact .inl hg
  ·exact .inr ⟨by omega, by rw [z3]; omega⟩
 ·rcases hq with hq | hq
  ·have := h.low _ hq; omega
  ·omega
theorem run_mkdir (h : FSx W Q w F a d room calls fail) {p : Option Addr} {n c : Nat} {bt : TypeId} {bv : Value}
 (hm : ∀ (Q' : Nat -> Prop) w1 B, TW W Q' w1 B F a d room calls fail (wkC ⟨#[109, 107, 100, 105, 114]⟩ F at' mask (.iface bt bv) ⟨#[]⟩ ⟨#[]⟩ 0) -> Keeps NoB w w1 ->
   Calls Tryz.prog 31 #[.pointer (some ⟨B, 0, none⟩), .slice p n c] w1 fun e w' => e = .returned (.tuple #[]) ∧ TW W Q' w' B F a d' room calls' fail (wkC ⟨#[109, 107, 100, 105, 114]⟩ F at' mask (.iface bt bv) out err st) ∧ Keeps (Lw W Q') w1 w') :
 Calls Tryz.prog 11 #[.string ⟨#[109, 107, 100, 105, 114]⟩, .slice p n c, .pointer (some ⟨F, 0, none⟩), .agg #[.int .i64 at', .int .i64 mask], .iface bt bv] w (FXo W Q w F a d' room calls' fail (.agg #[.string out, .string err, .int .i64 st])) := by
 have HS := Lib.hid (run_start (bt := bt) (bv := bv) (at' := at') (mask := mask) (name := ⟨#[109, 107, 100, 105, 114]⟩) h)
 have HM := Lib.hid (fun Q' w1 B h1 h2 => hm Q' w1 B h1 h2)
 have HW := Lib.hid h.keeps.size
 clear h hm
 go_enter Tryz.func11, Tryz.ntmps11
 go_upto_region 2 with fail
 obtain ⟨HT, HR, HK, hBR⟩ := HS.out
 generalize ((w.alloc (.cells #[.int .i64 at', .int .i64 mask] 28)).alloc (.cells #[.string ⟨#[]⟩, .string ⟨#[]⟩, .int .i64 0] 37)).alloc (.cells #[.string ⟨#[109, 107, 100, 105, 114]⟩, .pointer (some ⟨F, 0, none⟩), .int .i64 at', .int .i64 mask, .iface bt bv, .string ⟨#[]⟩, .string ⟨#[]⟩, .int .i64 0] 70) = w3 at *
 have HC := Lib.hid (HM.out _ _ _ HT HK)
 have hkz := HK.size
 have HKw := Lib.hid HK
 have HRw := Lib.hid HR
 generalize w.heap.size + 1 + 1 = B at *
 clear HM HK HR HT
 go_wp2_with (go_at_call 31; go_loud (refine HC.out.mono ?_); rintro e w4 ⟨rfl, ht4, hk4⟩; have a5 := ht4.bx.cell 5 _ rfl; have a6 := ht4.bx.cell 6 _ rfl; have a7 := ht4.bx.cell 7 _ rfl; have ab := ht4.bx.lt; have hr4 := HRw.out.keep hk4 (fun hg => hg.2 (.inr rfl)); have r0 := hr4.cell 0 _ rfl; have r1 := hr4.cell 1 _ rfl; have r2 := hr4.cell 2 _ rfl; have rf := hr4.fz; have rl := hr4.lt)
 refine bodyPost_ret (v := .agg #[.string out, .string err, .int .i64 st]) ?_ rfl ?_
 ·rw [results_cell_oneT rfl]; go_simp
 have hR := hkz
 have k3 := kset w4 ⟨w.heap.size + 1, 0, none⟩ (.string out)
 have k4 := kset (w4.setCell ⟨w.heap.size + 1, 0, none⟩ (.string out)) ⟨w.heap.size + 1, 1, none⟩ (.string err)
 have k5 := kset ((w4.setCell ⟨w.heap.size + 1, 0, none⟩ (.string out)).setCell ⟨w.heap.size + 1, 1, none⟩ (.string err)) ⟨w.heap.size + 1, 2, none⟩ (.int .i64 st)
 have k6 := (k3.trans k4).trans k5
 have hW : W.heap.size <= w.heap.size := HW.out
 have t6 := ht4.fx.turn k6 (fun g hg => ⟨.inr (.inr hg), by have e : g = w.heap.size + 1 := hg; omega⟩)
 refine ⟨rfl, t6.more (Keeps.refl _ _) (fun g hg => .inl (.inr (.inl hg))), ?_⟩
 exact (HKw.out.of_none.trans (hk4.mono (fun g _ hg hn => hn.elim (fun h => by have := hg.1; omega) (fun h => hg.2 (.inl h))))).step k6 (fun g hg => .inr (by have e : g = w.heap.size + 1 := hg; omega))
theorem run_ls (h : FSx W Q w F a d room calls fail) {p : Option Addr} {n c : Nat} {bt : TypeId} {bv : Value}
 (hm : ∀ (Q' : Nat -> Prop) w1 B, TW W Q' w1 B F a d room calls fail (wkC ⟨#[108, 115]⟩ F at' mask (.iface bt bv) ⟨#[]⟩ ⟨#[]⟩ 0) -> Keeps NoB w w1 ->
   Calls Tryz.prog 35 #[.pointer (some ⟨B, 0, none⟩), .slice p n c] w1 fun e w' => e = .returned (.tuple #[]) ∧ TW W Q' w' B F a d' room calls' fail (wkC ⟨#[108, 115]⟩ F at' mask (.iface bt bv) out err st) ∧ Keeps (Lw W Q') w1 w') :
 Calls Tryz.prog 11 #[.string ⟨#[108, 115]⟩, .slice p n c, .pointer (some ⟨F, 0, none⟩), .agg #[.int .i64 at', .int .i64 mask], .iface bt bv] w (FXo W Q w F a d' room calls' fail (.agg #[.string out, .string err, .int .i64 st])) := by
 have HS := Lib.hid (run_start (bt := bt) (bv := bv) (at' := at') (mask := mask) (name := ⟨#[108, 115]⟩) h)
 have HM := Lib.hid (fun Q' w1 B h1 h2 => hm Q' w1 B h1 h2)
 have HW := Lib.hid h.keeps.size
 clear h hm
 go_enter Tryz.func11, Tryz.ntmps11
 go_upto_region 2 with fail
 obtain ⟨HT, HR, HK, hBR⟩ := HS.out
 generalize ((w.alloc (.cells #[.int .i64 at', .int .i64 mask] 28)).alloc (.cells #[.string ⟨#[]⟩, .string ⟨#[]⟩, .int .i64 0] 37)).alloc (.cells #[.string ⟨#[108, 115]⟩, .pointer (some ⟨F, 0, none⟩), .int .i64 at', .int .i64 mask, .iface bt bv, .string ⟨#[]⟩, .string ⟨#[]⟩, .int .i64 0] 70) = w3 at *
 have HC := Lib.hid (HM.out _ _ _ HT HK)
 have hkz := HK.size
 have HKw := Lib.hid HK
 have HRw := Lib.hid HR
 generalize w.heap.size + 1 + 1 = B at *
 clear HM HK HR HT
 go_wp2_with (go_at_call 35; go_loud (refine HC.out.mono ?_); rintro e w4 ⟨rfl, ht4, hk4⟩; have a5 := ht4.bx.cell 5 _ rfl; have a6 := ht4.bx.cell 6 _ rfl; have a7 := ht4.bx.cell 7 _ rfl; have ab := ht4.bx.lt; have hr4 := HRw.out.keep hk4 (fun hg => hg.2 (.inr rfl)); have r0 := hr4.cell 0 _ rfl; have r1 := hr4.cell 1 _ rfl; have r2 := hr4.cell 2 _ rfl; have rf := hr4.fz; have rl := hr4.lt)
 refine bodyPost_ret (v := .agg #[.string out, .string err, .int .i64 st]) ?_ rfl ?_
 ·rw [results_cell_oneT rfl]; go_simp
 have hR := hkz
 have k3 := kset w4 ⟨w.heap.size + 1, 0, none⟩ (.string out)
 have k4 := kset (w4.setCell ⟨w.heap.size + 1, 0, none⟩ (.string out)) ⟨w.heap.size + 1, 1, none⟩ (.string err)
 have k5 := kset ((w4.setCell ⟨w.heap.size + 1, 0, none⟩ (.string out)).setCell ⟨w.heap.size + 1, 1, none⟩ (.string err)) ⟨w.heap.size + 1, 2, none⟩ (.int .i64 st)
 have k6 := (k3.trans k4).trans k5
 have hW : W.heap.size <= w.heap.size := HW.out
 have t6 := ht4.fx.turn k6 (fun g hg => ⟨.inr (.inr hg), by have e : g = w.heap.size + 1 := hg; omega⟩)
 refine ⟨rfl, t6.more (Keeps.refl _ _) (fun g hg => .inl (.inr (.inl hg))), ?_⟩
 exact (HKw.out.of_none.trans (hk4.mono (fun g _ hg hn => hn.elim (fun h => by have := hg.1; omega) (fun h => hg.2 (.inl h))))).step k6 (fun g hg => .inr (by have e : g = w.heap.size + 1 := hg; omega))
theorem run_chmod (h : FSx W Q w F a d room calls fail) {p : Option Addr} {n c : Nat} {bt : TypeId} {bv : Value}
 (hm : ∀ (Q' : Nat -> Prop) w1 B, TW W Q' w1 B F a d room calls fail (wkC ⟨#[99, 104, 109, 111, 100]⟩ F at' mask (.iface bt bv) ⟨#[]⟩ ⟨#[]⟩ 0) -> Keeps NoB w w1 ->
   Calls Tryz.prog 33 #[.pointer (some ⟨B, 0, none⟩), .slice p n c] w1 fun e w' => e = .returned (.tuple #[]) ∧ TW W Q' w' B F a d' room calls' fail (wkC ⟨#[99, 104, 109, 111, 100]⟩ F at' mask (.iface bt bv) out err st) ∧ Keeps (Lw W Q') w1 w') :
 Calls Tryz.prog 11 #[.string ⟨#[99, 104, 109, 111, 100]⟩, .slice p n c, .pointer (some ⟨F, 0, none⟩), .agg #[.int .i64 at', .int .i64 mask], .iface bt bv] w (FXo W Q w F a d' room calls' fail (.agg #[.string out, .string err, .int .i64 st])) := by
 have HS := Lib.hid (run_start (bt := bt) (bv := bv) (at' := at') (mask := mask) (name := ⟨#[99, 104, 109, 111, 100]⟩) h)
 have HM := Lib.hid (fun Q' w1 B h1 h2 => hm Q' w1 B h1 h2)
 have HW := Lib.hid h.keeps.size
 clear h hm
 go_enter Tryz.func11, Tryz.ntmps11
 go_upto_region 2 with fail
 obtain ⟨HT, HR, HK, hBR⟩ := HS.out
 generalize ((w.alloc (.cells #[.int .i64 at', .int .i64 mask] 28)).alloc (.cells #[.string ⟨#[]⟩, .string ⟨#[]⟩, .int .i64 0] 37)).alloc (.cells #[.string ⟨#[99, 104, 109, 111, 100]⟩, .pointer (some ⟨F, 0, none⟩), .int .i64 at', .int .i64 mask, .iface bt bv, .string ⟨#[]⟩, .string ⟨#[]⟩, .int .i64 0] 70) = w3 at *
 have HC := Lib.hid (HM.out _ _ _ HT HK)
 have hkz := HK.size
 have HKw := Lib.hid HK
 have HRw := Lib.hid HR
 generalize w.heap.size + 1 + 1 = B at *
 clear HM HK HR HT
 go_wp2_with (go_at_call 33; go_loud (refine HC.out.mono ?_); rintro e w4 ⟨rfl, ht4, hk4⟩; have a5 := ht4.bx.cell 5 _ rfl; have a6 := ht4.bx.cell 6 _ rfl; have a7 := ht4.bx.cell 7 _ rfl; have ab := ht4.bx.lt; have hr4 := HRw.out.keep hk4 (fun hg => hg.2 (.inr rfl)); have r0 := hr4.cell 0 _ rfl; have r1 := hr4.cell 1 _ rfl; have r2 := hr4.cell 2 _ rfl; have rf := hr4.fz; have rl := hr4.lt)
 refine bodyPost_ret (v := .agg #[.string out, .string err, .int .i64 st]) ?_ rfl ?_
 ·rw [results_cell_oneT rfl]; go_simp
 have hR := hkz
 have k3 := kset w4 ⟨w.heap.size + 1, 0, none⟩ (.string out)
 have k4 := kset (w4.setCell ⟨w.heap.size + 1, 0, none⟩ (.string out)) ⟨w.heap.size + 1, 1, none⟩ (.string err)
 have k5 := kset ((w4.setCell ⟨w.heap.size + 1, 0, none⟩ (.string out)).setCell ⟨w.heap.size + 1, 1, none⟩ (.string err)) ⟨w.heap.size + 1, 2, none⟩ (.int .i64 st)
 have k6 := (k3.trans k4).trans k5
 have hW : W.heap.size <= w.heap.size := HW.out
 have t6 := ht4.fx.turn k6 (fun g hg => ⟨.inr (.inr hg), by have e : g = w.heap.size + 1 := hg; omega⟩)
 refine ⟨rfl, t6.more (Keeps.refl _ _) (fun g hg => .inl (.inr (.inl hg))), ?_⟩
 exact (HKw.out.of_none.trans (hk4.mono (fun g _ hg hn => hn.elim (fun h => by have := hg.1; omega) (fun h => hg.2 (.inl h))))).step k6 (fun g hg => .inr (by have e : g = w.heap.size + 1 := hg; omega))
theorem run_ln (h : FSx W Q w F a d room calls fail) {p : Option Addr} {n c : Nat} {bt : TypeId} {bv : Value}
 (hm : ∀ (Q' : Nat -> Prop) w1 B, TW W Q' w1 B F a d room calls fail (wkC ⟨#[108, 110]⟩ F at' mask (.iface bt bv) ⟨#[]⟩ ⟨#[]⟩ 0) -> Keeps NoB w w1 ->
   Calls Tryz.prog 34 #[.pointer (some ⟨B, 0, none⟩), .slice p n c] w1 fun e w' => e = .returned (.tuple #[]) ∧ TW W Q' w' B F a d' room calls' fail (wkC ⟨#[108, 110]⟩ F at' mask (.iface bt bv) out err st) ∧ Keeps (Lw W Q') w1 w') :
 Calls Tryz.prog 11 #[.string ⟨#[108, 110]⟩, .slice p n c, .pointer (some ⟨F, 0, none⟩), .agg #[.int .i64 at', .int .i64 mask], .iface bt bv] w (FXo W Q w F a d' room calls' fail (.agg #[.string out, .string err, .int .i64 st])) := by
 have HS := Lib.hid (run_start (bt := bt) (bv := bv) (at' := at') (mask := mask) (name := ⟨#[108, 110]⟩) h)
 have HM := Lib.hid (fun Q' w1 B h1 h2 => hm Q' w1 B h1 h2)
 have HW := Lib.hid h.keeps.size
 clear h hm
 go_enter Tryz.func11, Tryz.ntmps11
 go_upto_region 2 with fail
 obtain ⟨HT, HR, HK, hBR⟩ := HS.out
 generalize ((w.alloc (.cells #[.int .i64 at', .int .i64 mask] 28)).alloc (.cells #[.string ⟨#[]⟩, .string ⟨#[]⟩, .int .i64 0] 37)).alloc (.cells #[.string ⟨#[108, 110]⟩, .pointer (some ⟨F, 0, none⟩), .int .i64 at', .int .i64 mask, .iface bt bv, .string ⟨#[]⟩, .string ⟨#[]⟩, .int .i64 0] 70) = w3 at *
 have HC := Lib.hid (HM.out _ _ _ HT HK)
 have hkz := HK.size
 have HKw := Lib.hid HK
 have HRw := Lib.hid HR
 generalize w.heap.size + 1 + 1 = B at *
 clear HM HK HR HT
 go_wp2_with (go_at_call 34; go_loud (refine HC.out.mono ?_); rintro e w4 ⟨rfl, ht4, hk4⟩; have a5 := ht4.bx.cell 5 _ rfl; have a6 := ht4.bx.cell 6 _ rfl; have a7 := ht4.bx.cell 7 _ rfl; have ab := ht4.bx.lt; have hr4 := HRw.out.keep hk4 (fun hg => hg.2 (.inr rfl)); have r0 := hr4.cell 0 _ rfl; have r1 := hr4.cell 1 _ rfl; have r2 := hr4.cell 2 _ rfl; have rf := hr4.fz; have rl := hr4.lt)
 refine bodyPost_ret (v := .agg #[.string out, .string err, .int .i64 st]) ?_ rfl ?_
 ·rw [results_cell_oneT rfl]; go_simp
 have hR := hkz
 have k3 := kset w4 ⟨w.heap.size + 1, 0, none⟩ (.string out)
 have k4 := kset (w4.setCell ⟨w.heap.size + 1, 0, none⟩ (.string out)) ⟨w.heap.size + 1, 1, none⟩ (.string err)
 have k5 := kset ((w4.setCell ⟨w.heap.size + 1, 0, none⟩ (.string out)).setCell ⟨w.heap.size + 1, 1, none⟩ (.string err)) ⟨w.heap.size + 1, 2, none⟩ (.int .i64 st)
 have k6 := (k3.trans k4).trans k5
 have hW : W.heap.size <= w.heap.size := HW.out
 have t6 := ht4.fx.turn k6 (fun g hg => ⟨.inr (.inr hg), by have e : g = w.heap.size + 1 := hg; omega⟩)
 refine ⟨rfl, t6.more (Keeps.refl _ _) (fun g hg => .inl (.inr (.inl hg))), ?_⟩
 exact (HKw.out.of_none.trans (hk4.mono (fun g _ hg hn => hn.elim (fun h => by have := hg.1; omega) (fun h => hg.2 (.inl h))))).step k6 (fun g hg => .inr (by have e : g = w.heap.size + 1 := hg; omega))
theorem run_mv (h : FSx W Q w F a d room calls fail) {p : Option Addr} {n c : Nat} {bt : TypeId} {bv : Value}
 (hm : ∀ (Q' : Nat -> Prop) w1 B, TW W Q' w1 B F a d room calls fail (wkC ⟨#[109, 118]⟩ F at' mask (.iface bt bv) ⟨#[]⟩ ⟨#[]⟩ 0) -> Keeps NoB w w1 ->
   Calls Tryz.prog 34 #[.pointer (some ⟨B, 0, none⟩), .slice p n c] w1 fun e w' => e = .returned (.tuple #[]) ∧ TW W Q' w' B F a d' room calls' fail (wkC ⟨#[109, 118]⟩ F at' mask (.iface bt bv) out err st) ∧ Keeps (Lw W Q') w1 w') :
 Calls Tryz.prog 11 #[.string ⟨#[109, 118]⟩, .slice p n c, .pointer (some ⟨F, 0, none⟩), .agg #[.int .i64 at', .int .i64 mask], .iface bt bv] w (FXo W Q w F a d' room calls' fail (.agg #[.string out, .string err, .int .i64 st])) := by
 have HS := Lib.hid (run_start (bt := bt) (bv := bv) (at' := at') (mask := mask) (name := ⟨#[109, 118]⟩) h)
 have HM := Lib.hid (fun Q' w1 B h1 h2 => hm Q' w1 B h1 h2)
 have HW := Lib.hid h.keeps.size
 clear h hm
 go_enter Tryz.func11, Tryz.ntmps11
 go_upto_region 2 with fail
 obtain ⟨HT, HR, HK, hBR⟩ := HS.out
 generalize ((w.alloc (.cells #[.int .i64 at', .int .i64 mask] 28)).alloc (.cells #[.string ⟨#[]⟩, .string ⟨#[]⟩, .int .i64 0] 37)).alloc (.cells #[.string ⟨#[109, 118]⟩, .pointer (some ⟨F, 0, none⟩), .int .i64 at', .int .i64 mask, .iface bt bv, .string ⟨#[]⟩, .string ⟨#[]⟩, .int .i64 0] 70) = w3 at *
 have HC := Lib.hid (HM.out _ _ _ HT HK)
 have hkz := HK.size
 have HKw := Lib.hid HK
 have HRw := Lib.hid HR
 generalize w.heap.size + 1 + 1 = B at *
 clear HM HK HR HT
 go_wp2_with (go_at_call 34; go_loud (refine HC.out.mono ?_); rintro e w4 ⟨rfl, ht4, hk4⟩; have a5 := ht4.bx.cell 5 _ rfl; have a6 := ht4.bx.cell 6 _ rfl; have a7 := ht4.bx.cell 7 _ rfl; have ab := ht4.bx.lt; have hr4 := HRw.out.keep hk4 (fun hg => hg.2 (.inr rfl)); have r0 := hr4.cell 0 _ rfl; have r1 := hr4.cell 1 _ rfl; have r2 := hr4.cell 2 _ rfl; have rf := hr4.fz; have rl := hr4.lt)
 refine bodyPost_ret (v := .agg #[.string out, .string err, .int .i64 st]) ?_ rfl ?_
 ·rw [results_cell_oneT rfl]; go_simp
 have hR := hkz
 have k3 := kset w4 ⟨w.heap.size + 1, 0, none⟩ (.string out)
 have k4 := kset (w4.setCell ⟨w.heap.size + 1, 0, none⟩ (.string out)) ⟨w.heap.size + 1, 1, none⟩ (.string err)
 have k5 := kset ((w4.setCell ⟨w.heap.size + 1, 0, none⟩ (.string out)).setCell ⟨w.heap.size + 1, 1, none⟩ (.string err)) ⟨w.heap.size + 1, 2, none⟩ (.int .i64 st)
 have k6 := (k3.trans k4).trans k5
 have hW : W.heap.size <= w.heap.size := HW.out
 have t6 := ht4.fx.turn k6 (fun g hg => ⟨.inr (.inr hg), by have e : g = w.heap.size + 1 := hg; omega⟩)
 refine ⟨rfl, t6.more (Keeps.refl _ _) (fun g hg => .inl (.inr (.inl hg))), ?_⟩
 exact (HKw.out.of_none.trans (hk4.mono (fun g _ hg hn => hn.elim (fun h => by have := hg.1; omega) (fun h => hg.2 (.inl h))))).step k6 (fun g hg => .inr (by have e : g = w.heap.size + 1 := hg; omega))
theorem run_cp (h : FSx W Q w F a d room calls fail) {p : Option Addr} {n c : Nat} {bt : TypeId} {bv : Value}
 (hm : ∀ (Q' : Nat -> Prop) w1 B, TW W Q' w1 B F a d room calls fail (wkC ⟨#[99, 112]⟩ F at' mask (.iface bt bv) ⟨#[]⟩ ⟨#[]⟩ 0) -> Keeps NoB w w1 ->
   Calls Tryz.prog 34 #[.pointer (some ⟨B, 0, none⟩), .slice p n c] w1 fun e w' => e = .returned (.tuple #[]) ∧ TW W Q' w' B F a d' room calls' fail (wkC ⟨#[99, 112]⟩ F at' mask (.iface bt bv) out err st) ∧ Keeps (Lw W Q') w1 w') :
 Calls Tryz.prog 11 #[.string ⟨#[99, 112]⟩, .slice p n c, .pointer (some ⟨F, 0, none⟩), .agg #[.int .i64 at', .int .i64 mask], .iface bt bv] w (FXo W Q w F a d' room calls' fail (.agg #[.string out, .string err, .int .i64 st])) := by
 have HS := Lib.hid (run_start (bt := bt) (bv := bv) (at' := at') (mask := mask) (name := ⟨#[99, 112]⟩) h)
 have HM := Lib.hid (fun Q' w1 B h1 h2 => hm Q' w1 B h1 h2)
 have HW := Lib.hid h.keeps.size
 clear h hm
 go_enter Tryz.func11, Tryz.ntmps11
 go_upto_region 2 with fail
 obtain ⟨HT, HR, HK, hBR⟩ := HS.out
 generalize ((w.alloc (.cells #[.int .i64 at', .int .i64 mask] 28)).alloc (.cells #[.string ⟨#[]⟩, .string ⟨#[]⟩, .int .i64 0] 37)).alloc (.cells #[.string ⟨#[99, 112]⟩, .pointer (some ⟨F, 0, none⟩), .int .i64 at', .int .i64 mask, .iface bt bv, .string ⟨#[]⟩, .string ⟨#[]⟩, .int .i64 0] 70) = w3 at *
 have HC := Lib.hid (HM.out _ _ _ HT HK)
 have hkz := HK.size
 have HKw := Lib.hid HK
 have HRw := Lib.hid HR
 generalize w.heap.size + 1 + 1 = B at *
 clear HM HK HR HT
 go_wp2_with (go_at_call 34; go_loud (refine HC.out.mono ?_); rintro e w4 ⟨rfl, ht4, hk4⟩; have a5 := ht4.bx.cell 5 _ rfl; have a6 := ht4.bx.cell 6 _ rfl; have a7 := ht4.bx.cell 7 _ rfl; have ab := ht4.bx.lt; have hr4 := HRw.out.keep hk4 (fun hg => hg.2 (.inr rfl)); have r0 := hr4.cell 0 _ rfl; have r1 := hr4.cell 1 _ rfl; have r2 := hr4.cell 2 _ rfl; have rf := hr4.fz; have rl := hr4.lt)
 refine bodyPost_ret (v := .agg #[.string out, .string err, .int .i64 st]) ?_ rfl ?_
 ·rw [results_cell_oneT rfl]; go_simp
 have hR := hkz
 have k3 := kset w4 ⟨w.heap.size + 1, 0, none⟩ (.string out)
 have k4 := kset (w4.setCell ⟨w.heap.size + 1, 0, none⟩ (.string out)) ⟨w.heap.size + 1, 1, none⟩ (.string err)
 have k5 := kset ((w4.setCell ⟨w.heap.size + 1, 0, none⟩ (.string out)).setCell ⟨w.heap.size + 1, 1, none⟩ (.string err)) ⟨w.heap.size + 1, 2, none⟩ (.int .i64 st)
 have k6 := (k3.trans k4).trans k5
 have hW : W.heap.size <= w.heap.size := HW.out
 have t6 := ht4.fx.turn k6 (fun g hg => ⟨.inr (.inr hg), by have e : g = w.heap.size + 1 := hg; omega⟩)
 refine ⟨rfl, t6.more (Keeps.refl _ _) (fun g hg => .inl (.inr (.inl hg))), ?_⟩
 exact (HKw.out.of_none.trans (hk4.mono (fun g _ hg hn => hn.elim (fun h => by have := hg.1; omega) (fun h => hg.2 (.inl h))))).step k6 (fun g hg => .inr (by have e : g = w.heap.size + 1 := hg; omega))
end
def od (n : Nat) : UInt8 := (48 + n % 8).toUInt8
def octB (n : Nat) : ByteArray := ⟨#[od (n / 512), od (n / 64), od (n / 8), od n]⟩
theorem od_toNat (n : Nat) : ((od n).toNat : Int) = 48 + (n : Int) % 8 := by
 unfold od
 have : (48 + n % 8).toUInt8.toNat = (48 + n % 8) % 256 := rfl
 rw [this]
 omega
theorem lit_str (wx : World) (zs : Array Value) (bs : List UInt8) (h : zs.toList = bs.map fun b => Value.int .u8 (b.toNat : Int)) :
 (convert 81 9 (.slice (some ⟨wx.heap.size, 0, none⟩) bs.length bs.length)).run Tryz.prog (wx.alloc (.cells zs 5)) = .ok (.string ⟨bs.toArray⟩) (wx.alloc (.cells zs 5)) := by
 exact run_convert_bytes_back (P := Tryz.prog) (wx.alloc (.cells zs 5)) 81 9 5 ⟨wx.heap.size, 0, none⟩ bs.length bs Tryz.underlying81 Tryz.underlying5 Tryz.underlying9 (fun j hj => by
  rw [add_lit, Nat.zero_add]
  refine boxed (Keeps.refl NoB (wx.alloc (.cells zs 5))) j _ ?_
  rw [<- Array.getElem?_toList, h, List.getElem?_map, List.getElem?_eq_getElem hj]
  rfl)
theorem r1octal_any (n : Nat) (hn : n <= 4095) (w : World) : Calls Tryz.prog 16 #[.int .i64 (n : Int)] w fun e w' => e = .returned (.string (octB n)) ∧ Keeps NoB w w' := by
 have h0 : (0 : Int) <= n := by omega
 have h1 : (n : Int) <= 4095 := by omega
 have hcv := lit_str w #[.int .u8 (48 + (n : Int) / 512), .int .u8 (48 + (n : Int) / 64 % 8), .int .u8 (48 + (n : Int) / 8 % 8), .int .u8 (48 + (n : Int) % 8)] [od (n / 512), od (n / 64), od (n / 8), od n] (by
  simp only [List.map_cons, List.map_nil, od_toNat]
  rw [show ((n / 512 : Nat) : Int) % 8 = (n : Int) / 512 by omega, show ((n / 64 : Nat) : Int) = (n : Int) / 64 by omega, show ((n / 8 : Nat) : Int) = (n : Int) / 8 by omega])
 simp only [List.length_cons, List.length_nil, Nat.zero_add] at hcv
 go_enter Tryz.func16, Tryz.ntmps16
 go_wp2
 go_ret
 exact ⟨rfl, (Keeps.refl _ _).alloc _⟩
theorem r1has_any (n k : Nat) (hn : n <= 4095) (hk : k <= 12) (w : World) : Calls Tryz.prog 17 #[.int .i64 (n : Int), .int .i64 (k : Int)] w fun e w' => e = .returned (.bool (decide (n / 2 ^ k % 2 = 1))) ∧ w = w' := by
 go_enter Tryz.func17, Tryz.ntmps17
 go_wp2
 go_loop [0, 5] (fun v i => ∃ j : Nat, j <= k ∧ i = .int .i64 (j : Int) ∧ v = .int .i64 ((n / 2 ^ j : Nat) : Int)) (fun _ i => k + 1 - (intOf i).toNat)
 case atStart => exact ⟨0, Nat.zero_le _, rfl, by simp⟩
 case round =>
  obtain ⟨j, hj, rfl, rfl⟩ := hrel
  have hq : n / 2 ^ j <= 4095 := Nat.le_trans (Nat.div_le_self _ _) hn
  have HS := Lib.hid (show n / 2 ^ (j + 1) = n / 2 ^ j / 2 by rw [Nat.pow_succ, Nat.div_div_eq_div_mul])
  obtain ⟨q, hqq⟩ : ∃ q, n / 2 ^ j = q := ⟨_, rfl⟩
  rw [hqq] at hq HS ⊢
  by_cases hlt : j < k
  ·clear hqq
   go_wp2
   go_round
   case rel => exact ⟨j + 1, by omega, by go_num, by rw [HS.out]; go_num⟩
   case measure => simp [intOf]; omega
  ·obtain rfl : j = k := by omega
   have HQ := Lib.hid hqq
   clear hqq
   go_wp2
   go_ret
   refine ⟨ret_bool ?_, rfl⟩
   rw [HQ.out, Bool.eq_iff_iff, beq_iff_eq, decide_eq_true_eq]
   omega
end Go.Proofs.YtimidmogcbapnaaGreatDoor
namespace Go.Proofs.YtimidmogcbapnaaGreatDoor
open Go
theorem bv_nat (a : Nat) (ha : a < 18446744073709551616) : (BitVec.ofInt 64 (a : Int)).toNat = a := by
 rw [BitVec.ofInt_natCast, BitVec.toNat_ofNat]; exact Nat.mod_eq_of_lt (by omega)
theorem bits_and_i64_nat (a b : Nat) (ha : a < 9223372036854775808) (hb : b < 9223372036854775808) : bits .and .i64 (a : Int) (b : Int) = ((a &&& b : Nat) : Int) := by
 have hx : a &&& b < 2 ^ 63 := Nat.and_lt_two_pow _ (by omega)
 show IntKind.i64.wrap ((BitVec.ofInt 64 (a : Int) &&& BitVec.ofInt 64 (b : Int)).toNat : Int) = _
 rw [BitVec.toNat_and, bv_nat a (by omega), bv_nat b (by omega), IntKind.wrap_i64]
 omega
end Go.Proofs.YtimidmogcbapnaaGreatDoor
namespace Go.Proofs.YtimidmogcbapnaaGreatDoor
open Go Go.RowKit
theorem bits_or_i64_nat (a b : Nat) (ha : a < 4611686018427387904) (hb : b < 4611686018427387904) : bits .or .i64 (a : Int) (b : Int) = ((a ||| b : Nat) : Int) := by
 have hx : a ||| b < 2 ^ 62 := Nat.or_lt_two_pow (by omega) (by omega)
 show IntKind.i64.wrap ((BitVec.ofInt 64 (a : Int) ||| BitVec.ofInt 64 (b : Int)).toNat : Int) = _
 rw [BitVec.toNat_or, bv_nat a (by omega), bv_nat b (by omega), IntKind.wrap_i64]
 omega
theorem or_add (v d : Nat) (hd : d < 8) : (8 * v) ||| d = 8 * v + d := by
 have := Nat.shiftLeft_add_eq_or_of_lt (i := 3) (b := d) (by simpa using hd) v
 rw [Nat.shiftLeft_eq] at this
 rw [Nat.mul_comm 8 v]
 exact this.symm
theorem octal_any (n : Nat) (hn : n <= 4095) (w : World) : Calls Tryz.prog 97 #[.string (octB n)] w fun e w' => e = .returned (.tuple #[.int .i64 (n : Int), .int .i64 0]) ∧ Keeps NoB w w' := by
 have hsz : (octB n).size = 4 := rfl
 have hconv := fun wx => Lib.run_convert_string_bytes (P := Tryz.prog) wx 9 81 5 (octB n) Tryz.underlying9 Tryz.underlying81 Tryz.underlying5
 rw [hsz] at hconv
 obtain ⟨hsl, hkc⟩ := conv_sl w (octB n) (by rw [hsz]; decide)
 rw [hsz] at hsl
 have HSL := Lib.hid hsl
 have HK := Lib.hid hkc
 have hdl : (octB n).data.toList = [od (n / 512), od (n / 64), od (n / 8), od n] := rfl
 rw [hdl] at HSL
 have hcp := HSL.out.cap
 clear hsl hkc hsz
 go_enter Tryz.func97, Tryz.ntmps97
 go_wp2_with fail
 clear hconv
 generalize grownCap w 4 0 5 = cp at *
 generalize Lib.bytesWorld w 5 (octB n) = w2 at *
 go_loop [4, 10] (fun v i => ∃ k : Nat, k <= 4 ∧ i = .int .i64 (k : Int) ∧ v = .int .i64 ((n / 8 ^ (4 - k) : Nat) : Int)) (fun _ i => 5 - (intOf i).toNat)
 case atStart => exact ⟨0, by omega, rfl, by rw [show n / 8 ^ (4 - 0) = 0 by rw [Nat.div_eq_of_lt]; omega]; rfl⟩
 case round =>
  obtain ⟨k, hk, rfl, rfl⟩ := hrel
  by_cases hlt : k < 4
  ·have hb : [od (n / 512), od (n / 64), od (n / 8), od n][k]? = some (od (n / 8 ^ (3 - k))) := by
    match k, hlt with
    | 0, _ => rfl
    | 1, _ => rfl
    | 2, _ => simp
    | 3, _ => simp
   have t0 : w2.cell? ⟨w.heap.size, k, none⟩ = some (.int .u8 ((od (n / 8 ^ (3 - k))).toNat : Int)) := by
    obtain ⟨g, off, e, _, _, hcc⟩ := HSL.out.at hb
    cases e
    have := hcc 0 _ rfl
    simpa [encU8] using this
   rw [od_toNat] at t0
   have hv : n / 8 ^ (4 - k) <= 511 := by
    match k, hlt with
    | 0, _ => show n / 4096 <= 511; omega
    | 1, _ => show n / 512 <= 511; omega
    | 2, _ => show n / 64 <= 511; omega
    | 3, _ => show n / 8 <= 511; omega
   have hnx := Lib.hid (show n / 8 ^ (4 - (k + 1)) = 8 * (n / 8 ^ (4 - k)) + n / 8 ^ (3 - k) % 8 by
    match k, hlt with
    | 0, _ => show n / 512 = 8 * (n / 4096) + n / 512 % 8; omega
    | 1, _ => show n / 64 = 8 * (n / 512) + n / 64 % 8; omega
    | 2, _ => show n / 8 = 8 * (n / 64) + n / 8 % 8; omega
    | 3, _ => show n / 1 = 8 * (n / 8) + n / 1 % 8; omega)
   have hmx : n / 8 ^ (4 - (k + 1)) <= 4095 := Nat.le_trans (Nat.div_le_self _ _) hn
   obtain ⟨v, hvv⟩ : ∃ v, n / 8 ^ (4 - k) = v := ⟨_, rfl⟩
   obtain ⟨dg, hdg⟩ : ∃ dg, n / 8 ^ (3 - k) % 8 = dg := ⟨_, rfl⟩
   obtain ⟨nx, hnn⟩ : ∃ nx, n / 8 ^ (4 - (k + 1)) = nx := ⟨_, rfl⟩
   have hdz : ((n / 8 ^ (3 - k) : Nat) : Int) % 8 = (dg : Int) := by omega
   rw [hdz] at t0
   rw [hvv] at hv hnx ⊢
   rw [hdg, hnn] at hnx
   rw [hnn] at hmx
   have hd8 : dg < 8 := by omega
   have HN := Lib.hid hnn
   have hbo : bits BinOp.or IntKind.i64 ((v : Int) * 8) (48 + (dg : Int) - 48) = (nx : Int) := by
    have h1 := bits_or_i64_nat (8 * v) dg (by omega) (by omega)
    rw [or_add v dg hd8] at h1
    rw [show (v : Int) * 8 = ((8 * v : Nat) : Int) by omega, show 48 + (dg : Int) - 48 = (dg : Int) by omega, h1, hnx.out]
   have q1 : decide (48 + (dg : Int) < 48) = false := by rw [decide_eq_false_iff_not]; omega
   have q2 : decide ((55 : Int) < 48 + (dg : Int)) = false := by rw [decide_eq_false_iff_not]; omega
   clear hb hvv hdg hdz hnn
   go_wp2_with fail
   go_round
   case rel => exact ⟨k + 1, by omega, by go_num, by rw [HN.out]⟩
   case measure => simp [intOf]; omega
  ·obtain rfl : k = 4 := by omega
   have HN := Lib.hid (show n / 8 ^ (4 - 4) = n by simp)
   rw [HN.out]
   go_wp2_with fail
   go_ret2
   exact ⟨rfl, HK.out⟩
theorem change_any (n m : Nat) (hn : n <= 4095) (x mask : Int) (dir : Bool) (w : World) : Calls Tryz.prog 66 #[.string (octB n), .int .i64 x, .bool dir, .int .i64 mask] w fun e w' => e = .returned (.tuple #[.int .i64 (n : Int), .int .i64 0]) ∧ Keeps NoB w w' := by
 have HO := Lib.hid (octal_any n hn w)
 have hsz : (octB n).size = 4 := rfl
 have hg : (octB n)[0] = od (n / 512) := rfl
 have ho := od_toNat (n / 512)
 have hz : (octB n).toList.isEmpty = false := by rw [Lib.toList_data]; rfl
 have q1 : (48 : Int) <= ((octB n)[0].toNat : Int) := by rw [hg, ho]; omega
 have q2 : ((octB n)[0].toNat : Int) <= 57 := by rw [hg, ho]; omega
 clear hg ho
 obtain ⟨s, hs⟩ : ∃ s, octB n = s := ⟨_, rfl⟩
 subst hs
 go_enter Tryz.func66, Tryz.ntmps66
 go_wp2_with (go_at_call 97; go_loud (refine HO.out.mono ?_); rintro e w2 ⟨rfl, hk⟩)
 go_ret2
 exact ⟨rfl, hk⟩
set_option maxHeartbeats 16000000
def bt (n k : Nat) : Bool := decide (n / 2 ^ k % 2 = 1)
def rwx (i : Nat) : UInt8 := if i % 3 = 0 then 120 else if i % 3 = 1 then 119 else 114
def ltB (n i : Nat) : UInt8 := if bt n i then rwx i else 45
def ltC (n i : Nat) : UInt8 :=
 if (i = 6 ∧ bt n 11 = true) ∨ (i = 3 ∧ bt n 10 = true) then (if bt n i then 115 else 83)
 else if i = 0 ∧ bt n 9 = true then (if bt n 0 then 116 else 84) else ltB n i
def letL (kd : UInt8) (n : Nat) : List UInt8 := kd :: [ltC n 8, ltC n 7, ltC n 6, ltC n 5, ltC n 4, ltC n 3, ltC n 2, ltC n 1, ltC n 0]
theorem hasb_any (n k : Nat) (hn : n <= 4095) (hk : k <= 12) (w : World) : Calls Tryz.prog 17 #[.int .i64 (n : Int), .int .i64 (k : Int)] w fun e w' => e = .returned (.bool (bt n k)) ∧ w = w' := r1has_any n k hn hk w
theorem r1letters_any (n : Nat) (hn : n <= 4095) (w : World) : Calls Tryz.prog 18 #[.int .u8 100, .int .i64 (n : Int)] w fun e w' => e = .returned (.string ⟨(letL 100 n).toArray⟩) ∧ Keeps NoB w w' := by
 have HH := Lib.hid (fun (k : Nat) (hk : k <= 12) (w : World) => hasb_any n k hn hk w)
 have H9 := Lib.hid (HH.out 9 (by decide))
 have H10 := Lib.hid (HH.out 10 (by decide))
 have H11 := Lib.hid (HH.out 11 (by decide))
 have HL := Lib.hid (own_lit (E := encU8) (e := 5) (w := w) (S := fun g => w.heap.size <= g) [100] #[.int .u8 100] rfl 1 rfl (Nat.le_refl _) (by decide))
 go_enter Tryz.func18, Tryz.ntmps18
 go_wp2
 have HK0 := Lib.hid ((Keeps.refl NoB w).alloc (.cells #[.int .u8 100] 5))
 generalize w.alloc (.cells #[.int .u8 100] 5) = w1 at *
 go_loopw [5, 6] (fun v i wr => ∃ j : Nat, j <= 9 ∧ i = .int .i64 (8 - (j : Int)) ∧ Own encU8 5 (fun g => w.heap.size <= g) wr v ((letL 100 n).take (j + 1)) ∧ Keeps NoB w wr) (fun _ i _ => (intOf i + 1).toNat)
 case atStart => exact ⟨0, by omega, rfl, HL.out, HK0.out⟩
 case round =>
  obtain ⟨j, hj, rfl, hown, hkp⟩ := hrel
  have HW := Lib.hid hown
  have HK := Lib.hid hkp
  have hsz := hkp.size
  clear hown hkp HL HK0
  rcases (show j = 9 ∨ j = 8 ∨ j = 7 ∨ j = 6 ∨ j = 5 ∨ j = 4 ∨ j = 3 ∨ j = 2 ∨ j = 1 ∨ j = 0 by omega) with rfl | rfl | rfl | rfl | rfl | rfl | rfl | rfl | rfl | rfl
  ·have hcv := own_str HW.out
   have he : (8 - ((9 : Nat) : Int)) = -1 := by decide
   rw [he]
   clear he
   go_wp2_with fail
   go_ret
   exact ⟨rfl, HK.out⟩
  ·have he : (8 - ((8 : Nat) : Int)) = 0 := by decide
   have hn : ((letL 100 n).take (8 + 1)).length = 9 := rfl
   have HE := Lib.hid (show (letL 100 n).take (8 + 1 + 1) = (letL 100 n).take (8 + 1) ++ [ltC n 0] from rfl)
   have Hb : Hid (∀ w : World, Calls Tryz.prog 17 #[.int .i64 (n : Int), .int .i64 0] w fun e w' => e = .returned (.bool (bt n 0)) ∧ w = w') := HH.out 0 (by decide)
   generalize hL : (letL 100 n).take (8 + 1) = L at *
   clear hL
   rw [he]
   clear he
   obtain ⟨b9, hb9⟩ : ∃ b, bt n 9 = b := ⟨_, rfl⟩
   obtain ⟨b0, hb0⟩ : ∃ b, bt n 0 = b := ⟨_, rfl⟩
   rw [hb0] at Hb
   have Hs : Hid (∀ w : World, Calls Tryz.prog 17 #[.int .i64 (n : Int), .int .i64 9] w fun e w' => e = .returned (.bool b9) ∧ w = w') := by
    have := H9.out
    rw [hb9] at this
    exact this
   have HB := Lib.hid ((And.intro hb9 hb0))
   clear hb9 hb0
   cases b9 with
   | false =>
     cases b0 with
     | false =>
       go_wp2_with (first | (go_at_call 17; ((with_reducible refine (Hb.out _).mono ?_); rintro e w3 ⟨rfl, rfl⟩)) | (go_at_call 17; ((with_reducible refine (Hs.out _).mono ?_); rintro e w3 ⟨rfl, rfl⟩)) | (at_builtin; refine wpl_append rfl (.tmp 46) (.tmp 48) rfl tU8 (HW.out.keep ((Keeps.refl NoB wr).alloc _) (fun _ _ h => h)) (own_lit (E := encU8) (e := 5) (w := wr) (S := fun _ => True) [45] #[.int .u8 45] rfl 1 rfl trivial (by decide)).sl rfl rfl (by simp; omega) (by simp [maxLen]; omega) (by simp; omega) ?_; intro v' w2 ho2 hk2 hf2))
       go_roundw
       case rel => exact ⟨8 + 1, by decide, rfl, by rw [HE.out, show ltC n 0 = 45 by obtain ⟨h1, h2⟩ := HB.out; simp [ltC, ltB, rwx, h1, h2]]; exact ho2, (HK.out.alloc _).step hk2 (fun g hg => .inr (HW.out.2 g hg))⟩
       case measure => simp [intOf]
     | true =>
       go_wp2_with (first | (go_at_call 17; ((with_reducible refine (Hb.out _).mono ?_); rintro e w3 ⟨rfl, rfl⟩)) | (go_at_call 17; ((with_reducible refine (Hs.out _).mono ?_); rintro e w3 ⟨rfl, rfl⟩)) | (at_builtin; refine wpl_append rfl (.tmp 46) (.tmp 48) rfl tU8 (HW.out.keep ((Keeps.refl NoB wr).alloc _) (fun _ _ h => h)) (own_lit (E := encU8) (e := 5) (w := wr) (S := fun _ => True) [120] #[.int .u8 120] rfl 1 rfl trivial (by decide)).sl rfl rfl (by simp; omega) (by simp [maxLen]; omega) (by simp; omega) ?_; intro v' w2 ho2 hk2 hf2))
       go_roundw
       case rel => exact ⟨8 + 1, by decide, rfl, by rw [HE.out, show ltC n 0 = 120 by obtain ⟨h1, h2⟩ := HB.out; simp [ltC, ltB, rwx, h1, h2]]; exact ho2, (HK.out.alloc _).step hk2 (fun g hg => .inr (HW.out.2 g hg))⟩
       case measure => simp [intOf]
   | true =>
     cases b0 with
     | false =>
       go_wp2_with (first | (go_at_call 17; ((with_reducible refine (Hb.out _).mono ?_); rintro e w3 ⟨rfl, rfl⟩)) | (go_at_call 17; ((with_reducible refine (Hs.out _).mono ?_); rintro e w3 ⟨rfl, rfl⟩)) | (at_builtin; refine wpl_append rfl (.tmp 46) (.tmp 48) rfl tU8 (HW.out.keep ((Keeps.refl NoB wr).alloc _) (fun _ _ h => h)) (own_lit (E := encU8) (e := 5) (w := wr) (S := fun _ => True) [84] #[.int .u8 84] rfl 1 rfl trivial (by decide)).sl rfl rfl (by simp; omega) (by simp [maxLen]; omega) (by simp; omega) ?_; intro v' w2 ho2 hk2 hf2))
       go_roundw
       case rel => exact ⟨8 + 1, by decide, rfl, by rw [HE.out, show ltC n 0 = 84 by obtain ⟨h1, h2⟩ := HB.out; simp [ltC, ltB, rwx, h1, h2]]; exact ho2, (HK.out.alloc _).step hk2 (fun g hg => .inr (HW.out.2 g hg))⟩
       case measure => simp [intOf]
     | true =>
       go_wp2_with (first | (go_at_call 17; ((with_reducible refine (Hb.out _).mono ?_); rintro e w3 ⟨rfl, rfl⟩)) | (go_at_call 17; ((with_reducible refine (Hs.out _).mono ?_); rintro e w3 ⟨rfl, rfl⟩)) | (at_builtin; refine wpl_append rfl (.tmp 46) (.tmp 48) rfl tU8 (HW.out.keep ((Keeps.refl NoB wr).alloc _) (fun _ _ h => h)) (own_lit (E := encU8) (e := 5) (w := wr) (S := fun _ => True) [116] #[.int .u8 116] rfl 1 rfl trivial (by decide)).sl rfl rfl (by simp; omega) (by simp [maxLen]; omega) (by simp; omega) ?_; intro v' w2 ho2 hk2 hf2))
       go_roundw
       case rel => exact ⟨8 + 1, by decide, rfl, by rw [HE.out, show ltC n 0 = 116 by obtain ⟨h1, h2⟩ := HB.out; simp [ltC, ltB, rwx, h1, h2]]; exact ho2, (HK.out.alloc _).step hk2 (fun g hg => .inr (HW.out.2 g hg))⟩
       case measure => simp [intOf]
  ·have he : (8 - ((7 : Nat) : Int)) = 1 := by decide
   have hn : ((letL 100 n).take (7 + 1)).length = 8 := rfl
   have HE := Lib.hid (show (letL 100 n).take (7 + 1 + 1) = (letL 100 n).take (7 + 1) ++ [ltC n 1] from rfl)
   have Hb : Hid (∀ w : World, Calls Tryz.prog 17 #[.int .i64 (n : Int), .int .i64 1] w fun e w' => e = .returned (.bool (bt n 1)) ∧ w = w') := HH.out 1 (by decide)
   generalize hL : (letL 100 n).take (7 + 1) = L at *
   clear hL
   rw [he]
   clear he
   obtain ⟨b1, hb1⟩ : ∃ b, bt n 1 = b := ⟨_, rfl⟩
   rw [hb1] at Hb
   have HB := Lib.hid hb1
   clear hb1
   cases b1 with
   | false =>
     go_wp2_with (first | (go_at_call 17; ((with_reducible refine (Hb.out _).mono ?_); rintro e w3 ⟨rfl, rfl⟩)) | (at_builtin; refine wpl_append rfl (.tmp 46) (.tmp 48) rfl tU8 (HW.out.keep ((Keeps.refl NoB wr).alloc _) (fun _ _ h => h)) (own_lit (E := encU8) (e := 5) (w := wr) (S := fun _ => True) [45] #[.int .u8 45] rfl 1 rfl trivial (by decide)).sl rfl rfl (by simp; omega) (by simp [maxLen]; omega) (by simp; omega) ?_; intro v' w2 ho2 hk2 hf2))
     go_roundw
     case rel => exact ⟨7 + 1, by decide, rfl, by rw [HE.out, show ltC n 1 = 45 by have h1 := HB.out; simp [ltC, ltB, rwx, h1]]; exact ho2, (HK.out.alloc _).step hk2 (fun g hg => .inr (HW.out.2 g hg))⟩
     case measure => simp [intOf]
   | true =>
     go_wp2_with (first | (go_at_call 17; ((with_reducible refine (Hb.out _).mono ?_); rintro e w3 ⟨rfl, rfl⟩)) | (at_builtin; refine wpl_append rfl (.tmp 46) (.tmp 48) rfl tU8 (HW.out.keep ((Keeps.refl NoB wr).alloc _) (fun _ _ h => h)) (own_lit (E := encU8) (e := 5) (w := wr) (S := fun _ => True) [119] #[.int .u8 119] rfl 1 rfl trivial (by decide)).sl rfl rfl (by simp; omega) (by simp [maxLen]; omega) (by simp; omega) ?_; intro v' w2 ho2 hk2 hf2))
     go_roundw
     case rel => exact ⟨7 + 1, by decide, rfl, by rw [HE.out, show ltC n 1 = 119 by have h1 := HB.out; simp [ltC, ltB, rwx, h1]]; exact ho2, (HK.out.alloc _).step hk2 (fun g hg => .inr (HW.out.2 g hg))⟩
     case measure => simp [intOf]
  ·have he : (8 - ((6 : Nat) : Int)) = 2 := by decide
   have hn : ((letL 100 n).take (6 + 1)).length = 7 := rfl
   have HE := Lib.hid (show (letL 100 n).take (6 + 1 + 1) = (letL 100 n).take (6 + 1) ++ [ltC n 2] from rfl)
   have Hb : Hid (∀ w : World, Calls Tryz.prog 17 #[.int .i64 (n : Int), .int .i64 2] w fun e w' => e = .returned (.bool (bt n 2)) ∧ w = w') := HH.out 2 (by decide)
   generalize hL : (letL 100 n).take (6 + 1) = L at *
   clear hL
   rw [he]
   clear he
   obtain ⟨b2, hb2⟩ : ∃ b, bt n 2 = b := ⟨_, rfl⟩
   rw [hb2] at Hb
   have HB := Lib.hid hb2
   clear hb2
   cases b2 with
   | false =>
     go_wp2_with (first | (go_at_call 17; ((with_reducible refine (Hb.out _).mono ?_); rintro e w3 ⟨rfl, rfl⟩)) | (at_builtin; refine wpl_append rfl (.tmp 46) (.tmp 48) rfl tU8 (HW.out.keep ((Keeps.refl NoB wr).alloc _) (fun _ _ h => h)) (own_lit (E := encU8) (e := 5) (w := wr) (S := fun _ => True) [45] #[.int .u8 45] rfl 1 rfl trivial (by decide)).sl rfl rfl (by simp; omega) (by simp [maxLen]; omega) (by simp; omega) ?_; intro v' w2 ho2 hk2 hf2))
     go_roundw
     case rel => exact ⟨6 + 1, by decide, rfl, by rw [HE.out, show ltC n 2 = 45 by have h1 := HB.out; simp [ltC, ltB, rwx, h1]]; exact ho2, (HK.out.alloc _).step hk2 (fun g hg => .inr (HW.out.2 g hg))⟩
     case measure => simp [intOf]
   | true =>
     go_wp2_with (first | (go_at_call 17; ((with_reducible refine (Hb.out _).mono ?_); rintro e w3 ⟨rfl, rfl⟩)) | (at_builtin; refine wpl_append rfl (.tmp 46) (.tmp 48) rfl tU8 (HW.out.keep ((Keeps.refl NoB wr).alloc _) (fun _ _ h => h)) (own_lit (E := encU8) (e := 5) (w := wr) (S := fun _ => True) [114] #[.int .u8 114] rfl 1 rfl trivial (by decide)).sl rfl rfl (by simp; omega) (by simp [maxLen]; omega) (by simp; omega) ?_; intro v' w2 ho2 hk2 hf2))
     go_roundw
     case rel => exact ⟨6 + 1, by decide, rfl, by rw [HE.out, show ltC n 2 = 114 by have h1 := HB.out; simp [ltC, ltB, rwx, h1]]; exact ho2, (HK.out.alloc _).step hk2 (fun g hg => .inr (HW.out.2 g hg))⟩
     case measure => simp [intOf]
  ·have he : (8 - ((5 : Nat) : Int)) = 3 := by decide
   have hn : ((letL 100 n).take (5 + 1)).length = 6 := rfl
   have HE := Lib.hid (show (letL 100 n).take (5 + 1 + 1) = (letL 100 n).take (5 + 1) ++ [ltC n 3] from rfl)
   have Hb : Hid (∀ w : World, Calls Tryz.prog 17 #[.int .i64 (n : Int), .int .i64 3] w fun e w' => e = .returned (.bool (bt n 3)) ∧ w = w') := HH.out 3 (by decide)
   generalize hL : (letL 100 n).take (5 + 1) = L at *
   clear hL
   rw [he]
   clear he
   obtain ⟨b10, hb10⟩ : ∃ b, bt n 10 = b := ⟨_, rfl⟩
   obtain ⟨b3, hb3⟩ : ∃ b, bt n 3 = b := ⟨_, rfl⟩
   rw [hb3] at Hb
   have Hs : Hid (∀ w : World, Calls Tryz.prog 17 #[.int .i64 (n : Int), .int .i64 10] w fun e w' => e = .returned (.bool b10) ∧ w = w') := by
    have := H10.out
    rw [hb10] at this
    exact this
   have HB := Lib.hid ((And.intro hb10 hb3))
   clear hb10 hb3
   cases b10 with
   | false =>
     cases b3 with
     | false =>
       go_wp2_with (first | (go_at_call 17; ((with_reducible refine (Hb.out _).mono ?_); rintro e w3 ⟨rfl, rfl⟩)) | (go_at_call 17; ((with_reducible refine (Hs.out _).mono ?_); rintro e w3 ⟨rfl, rfl⟩)) | (at_builtin; refine wpl_append rfl (.tmp 46) (.tmp 48) rfl tU8 (HW.out.keep ((Keeps.refl NoB wr).alloc _) (fun _ _ h => h)) (own_lit (E := encU8) (e := 5) (w := wr) (S := fun _ => True) [45] #[.int .u8 45] rfl 1 rfl trivial (by decide)).sl rfl rfl (by simp; omega) (by simp [maxLen]; omega) (by simp; omega) ?_; intro v' w2 ho2 hk2 hf2))
       go_roundw
       case rel => exact ⟨5 + 1, by decide, rfl, by rw [HE.out, show ltC n 3 = 45 by obtain ⟨h1, h2⟩ := HB.out; simp [ltC, ltB, rwx, h1, h2]]; exact ho2, (HK.out.alloc _).step hk2 (fun g hg => .inr (HW.out.2 g hg))⟩
       case measure => simp [intOf]
     | true =>
       go_wp2_with (first | (go_at_call 17; ((with_reducible refine (Hb.out _).mono ?_); rintro e w3 ⟨rfl, rfl⟩)) | (go_at_call 17; ((with_reducible refine (Hs.out _).mono ?_); rintro e w3 ⟨rfl, rfl⟩)) | (at_builtin; refine wpl_append rfl (.tmp 46) (.tmp 48) rfl tU8 (HW.out.keep ((Keeps.refl NoB wr).alloc _) (fun _ _ h => h)) (own_lit (E := encU8) (e := 5) (w := wr) (S := fun _ => True) [120] #[.int .u8 120] rfl 1 rfl trivial (by decide)).sl rfl rfl (by simp; omega) (by simp [maxLen]; omega) (by simp; omega) ?_; intro v' w2 ho2 hk2 hf2))
       go_roundw
       case rel => exact ⟨5 + 1, by decide, rfl, by rw [HE.out, show ltC n 3 = 120 by obtain ⟨h1, h2⟩ := HB.out; simp [ltC, ltB, rwx, h1, h2]]; exact ho2, (HK.out.alloc _).step hk2 (fun g hg => .inr (HW.out.2 g hg))⟩
       case measure => simp [intOf]
   | true =>
     cases b3 with
     | false =>
       go_wp2_with (first | (go_at_call 17; ((with_reducible refine (Hb.out _).mono ?_); rintro e w3 ⟨rfl, rfl⟩)) | (go_at_call 17; ((with_reducible refine (Hs.out _).mono ?_); rintro e w3 ⟨rfl, rfl⟩)) | (at_builtin; refine wpl_append rfl (.tmp 46) (.tmp 48) rfl tU8 (HW.out.keep ((Keeps.refl NoB wr).alloc _) (fun _ _ h => h)) (own_lit (E := encU8) (e := 5) (w := wr) (S := fun _ => True) [83] #[.int .u8 83] rfl 1 rfl trivial (by decide)).sl rfl rfl (by simp; omega) (by simp [maxLen]; omega) (by simp; omega) ?_; intro v' w2 ho2 hk2 hf2))
       go_roundw
       case rel => exact ⟨5 + 1, by decide, rfl, by rw [HE.out, show ltC n 3 = 83 by obtain ⟨h1, h2⟩ := HB.out; simp [ltC, ltB, rwx, h1, h2]]; exact ho2, (HK.out.alloc _).step hk2 (fun g hg => .inr (HW.out.2 g hg))⟩
       case measure => simp [intOf]
     | true =>
       go_wp2_with (first | (go_at_call 17; ((with_reducible refine (Hb.out _).mono ?_); rintro e w3 ⟨rfl, rfl⟩)) | (go_at_call 17; ((with_reducible refine (Hs.out _).mono ?_); rintro e w3 ⟨rfl, rfl⟩)) | (at_builtin; refine wpl_append rfl (.tmp 46) (.tmp 48) rfl tU8 (HW.out.keep ((Keeps.refl NoB wr).alloc _) (fun _ _ h => h)) (own_lit (E := encU8) (e := 5) (w := wr) (S := fun _ => True) [115] #[.int .u8 115] rfl 1 rfl trivial (by decide)).sl rfl rfl (by simp; omega) (by simp [maxLen]; omega) (by simp; omega) ?_; intro v' w2 ho2 hk2 hf2))
       go_roundw
       case rel => exact ⟨5 + 1, by decide, rfl, by rw [HE.out, show ltC n 3 = 115 by obtain ⟨h1, h2⟩ := HB.out; simp [ltC, ltB, rwx, h1, h2]]; exact ho2, (HK.out.alloc _).step hk2 (fun g hg => .inr (HW.out.2 g hg))⟩
       case measure => simp [intOf]
  ·have he : (8 - ((4 : Nat) : Int)) = 4 := by decide
   have hn : ((letL 100 n).take (4 + 1)).length = 5 := rfl
   have HE := Lib.hid (show (letL 100 n).take (4 + 1 + 1) = (letL 100 n).take (4 + 1) ++ [ltC n 4] from rfl)
   have Hb : Hid (∀ w : World, Calls Tryz.prog 17 #[.int .i64 (n : Int), .int .i64 4] w fun e w' => e = .returned (.bool (bt n 4)) ∧ w = w') := HH.out 4 (by decide)
   generalize hL : (letL 100 n).take (4 + 1) = L at *
   clear hL
   rw [he]
   clear he
   obtain ⟨b4, hb4⟩ : ∃ b, bt n 4 = b := ⟨_, rfl⟩
   rw [hb4] at Hb
   have HB := Lib.hid hb4
   clear hb4
   cases b4 with
   | false =>
     go_wp2_with (first | (go_at_call 17; ((with_reducible refine (Hb.out _).mono ?_); rintro e w3 ⟨rfl, rfl⟩)) | (at_builtin; refine wpl_append rfl (.tmp 46) (.tmp 48) rfl tU8 (HW.out.keep ((Keeps.refl NoB wr).alloc _) (fun _ _ h => h)) (own_lit (E := encU8) (e := 5) (w := wr) (S := fun _ => True) [45] #[.int .u8 45] rfl 1 rfl trivial (by decide)).sl rfl rfl (by simp; omega) (by simp [maxLen]; omega) (by simp; omega) ?_; intro v' w2 ho2 hk2 hf2))
     go_roundw
     case rel => exact ⟨4 + 1, by decide, rfl, by rw [HE.out, show ltC n 4 = 45 by have h1 := HB.out; simp [ltC, ltB, rwx, h1]]; exact ho2, (HK.out.alloc _).step hk2 (fun g hg => .inr (HW.out.2 g hg))⟩
     case measure => simp [intOf]
   | true =>
     go_wp2_with (first | (go_at_call 17; ((with_reducible refine (Hb.out _).mono ?_); rintro e w3 ⟨rfl, rfl⟩)) | (at_builtin; refine wpl_append rfl (.tmp 46) (.tmp 48) rfl tU8 (HW.out.keep ((Keeps.refl NoB wr).alloc _) (fun _ _ h => h)) (own_lit (E := encU8) (e := 5) (w := wr) (S := fun _ => True) [119] #[.int .u8 119] rfl 1 rfl trivial (by decide)).sl rfl rfl (by simp; omega) (by simp [maxLen]; omega) (by simp; omega) ?_; intro v' w2 ho2 hk2 hf2))
     go_roundw
     case rel => exact ⟨4 + 1, by decide, rfl, by rw [HE.out, show ltC n 4 = 119 by have h1 := HB.out; simp [ltC, ltB, rwx, h1]]; exact ho2, (HK.out.alloc _).step hk2 (fun g hg => .inr (HW.out.2 g hg))⟩
     case measure => simp [intOf]
  ·have he : (8 - ((3 : Nat) : Int)) = 5 := by decide
   have hn : ((letL 100 n).take (3 + 1)).length = 4 := rfl
   have HE := Lib.hid (show (letL 100 n).take (3 + 1 + 1) = (letL 100 n).take (3 + 1) ++ [ltC n 5] from rfl)
   have Hb : Hid (∀ w : World, Calls Tryz.prog 17 #[.int .i64 (n : Int), .int .i64 5] w fun e w' => e = .returned (.bool (bt n 5)) ∧ w = w') := HH.out 5 (by decide)
   generalize hL : (letL 100 n).take (3 + 1) = L at *
   clear hL
   rw [he]
   clear he
   obtain ⟨b5, hb5⟩ : ∃ b, bt n 5 = b := ⟨_, rfl⟩
   rw [hb5] at Hb
   have HB := Lib.hid hb5
   clear hb5
   cases b5 with
   | false =>
     go_wp2_with (first | (go_at_call 17; ((with_reducible refine (Hb.out _).mono ?_); rintro e w3 ⟨rfl, rfl⟩)) | (at_builtin; refine wpl_append rfl (.tmp 46) (.tmp 48) rfl tU8 (HW.out.keep ((Keeps.refl NoB wr).alloc _) (fun _ _ h => h)) (own_lit (E := encU8) (e := 5) (w := wr) (S := fun _ => True) [45] #[.int .u8 45] rfl 1 rfl trivial (by decide)).sl rfl rfl (by simp; omega) (by simp [maxLen]; omega) (by simp; omega) ?_; intro v' w2 ho2 hk2 hf2))
     go_roundw
     case rel => exact ⟨3 + 1, by decide, rfl, by rw [HE.out, show ltC n 5 = 45 by have h1 := HB.out; simp [ltC, ltB, rwx, h1]]; exact ho2, (HK.out.alloc _).step hk2 (fun g hg => .inr (HW.out.2 g hg))⟩
     case measure => simp [intOf]
   | true =>
     go_wp2_with (first | (go_at_call 17; ((with_reducible refine (Hb.out _).mono ?_); rintro e w3 ⟨rfl, rfl⟩)) | (at_builtin; refine wpl_append rfl (.tmp 46) (.tmp 48) rfl tU8 (HW.out.keep ((Keeps.refl NoB wr).alloc _) (fun _ _ h => h)) (own_lit (E := encU8) (e := 5) (w := wr) (S := fun _ => True) [114] #[.int .u8 114] rfl 1 rfl trivial (by decide)).sl rfl rfl (by simp; omega) (by simp [maxLen]; omega) (by simp; omega) ?_; intro v' w2 ho2 hk2 hf2))
     go_roundw
     case rel => exact ⟨3 + 1, by decide, rfl, by rw [HE.out, show ltC n 5 = 114 by have h1 := HB.out; simp [ltC, ltB, rwx, h1]]; exact ho2, (HK.out.alloc _).step hk2 (fun g hg => .inr (HW.out.2 g hg))⟩
     case measure => simp [intOf]
  ·have he : (8 - ((2 : Nat) : Int)) = 6 := by decide
   have hn : ((letL 100 n).take (2 + 1)).length = 3 := rfl
   have HE := Lib.hid (show (letL 100 n).take (2 + 1 + 1) = (letL 100 n).take (2 + 1) ++ [ltC n 6] from rfl)
   have Hb : Hid (∀ w : World, Calls Tryz.prog 17 #[.int .i64 (n : Int), .int .i64 6] w fun e w' => e = .returned (.bool (bt n 6)) ∧ w = w') := HH.out 6 (by decide)
   generalize hL : (letL 100 n).take (2 + 1) = L at *
   clear hL
   rw [he]
   clear he
   obtain ⟨b11, hb11⟩ : ∃ b, bt n 11 = b := ⟨_, rfl⟩
   obtain ⟨b6, hb6⟩ : ∃ b, bt n 6 = b := ⟨_, rfl⟩
   rw [hb6] at Hb
   have Hs : Hid (∀ w : World, Calls Tryz.prog 17 #[.int .i64 (n : Int), .int .i64 11] w fun e w' => e = .returned (.bool b11) ∧ w = w') := by
    have := H11.out
    rw [hb11] at this
    exact this
   have HB := Lib.hid ((And.intro hb11 hb6))
   clear hb11 hb6
   cases b11 with
   | false =>
     cases b6 with
     | false =>
       go_wp2_with (first | (go_at_call 17; ((with_reducible refine (Hb.out _).mono ?_); rintro e w3 ⟨rfl, rfl⟩)) | (go_at_call 17; ((with_reducible refine (Hs.out _).mono ?_); rintro e w3 ⟨rfl, rfl⟩)) | (at_builtin; refine wpl_append rfl (.tmp 46) (.tmp 48) rfl tU8 (HW.out.keep ((Keeps.refl NoB wr).alloc _) (fun _ _ h => h)) (own_lit (E := encU8) (e := 5) (w := wr) (S := fun _ => True) [45] #[.int .u8 45] rfl 1 rfl trivial (by decide)).sl rfl rfl (by simp; omega) (by simp [maxLen]; omega) (by simp; omega) ?_; intro v' w2 ho2 hk2 hf2))
       go_roundw
       case rel => exact ⟨2 + 1, by decide, rfl, by rw [HE.out, show ltC n 6 = 45 by obtain ⟨h1, h2⟩ := HB.out; simp [ltC, ltB, rwx, h1, h2]]; exact ho2, (HK.out.alloc _).step hk2 (fun g hg => .inr (HW.out.2 g hg))⟩
       case measure => simp [intOf]
     | true =>
       go_wp2_with (first | (go_at_call 17; ((with_reducible refine (Hb.out _).mono ?_); rintro e w3 ⟨rfl, rfl⟩)) | (go_at_call 17; ((with_reducible refine (Hs.out _).mono ?_); rintro e w3 ⟨rfl, rfl⟩)) | (at_builtin; refine wpl_append rfl (.tmp 46) (.tmp 48) rfl tU8 (HW.out.keep ((Keeps.refl NoB wr).alloc _) (fun _ _ h => h)) (own_lit (E := encU8) (e := 5) (w := wr) (S := fun _ => True) [120] #[.int .u8 120] rfl 1 rfl trivial (by decide)).sl rfl rfl (by simp; omega) (by simp [maxLen]; omega) (by simp; omega) ?_; intro v' w2 ho2 hk2 hf2))
       go_roundw
       case rel => exact ⟨2 + 1, by decide, rfl, by rw [HE.out, show ltC n 6 = 120 by obtain ⟨h1, h2⟩ := HB.out; simp [ltC, ltB, rwx, h1, h2]]; exact ho2, (HK.out.alloc _).step hk2 (fun g hg => .inr (HW.out.2 g hg))⟩
       case measure => simp [intOf]
   | true =>
     cases b6 with
     | false =>
       go_wp2_with (first | (go_at_call 17; ((with_reducible refine (Hb.out _).mono ?_); rintro e w3 ⟨rfl, rfl⟩)) | (go_at_call 17; ((with_reducible refine (Hs.out _).mono ?_); rintro e w3 ⟨rfl, rfl⟩)) | (at_builtin; refine wpl_append rfl (.tmp 46) (.tmp 48) rfl tU8 (HW.out.keep ((Keeps.refl NoB wr).alloc _) (fun _ _ h => h)) (own_lit (E := encU8) (e := 5) (w := wr) (S := fun _ => True) [83] #[.int .u8 83] rfl 1 rfl trivial (by decide)).sl rfl rfl (by simp; omega) (by simp [maxLen]; omega) (by simp; omega) ?_; intro v' w2 ho2 hk2 hf2))
       go_roundw
       case rel => exact ⟨2 + 1, by decide, rfl, by rw [HE.out, show ltC n 6 = 83 by obtain ⟨h1, h2⟩ := HB.out; simp [ltC, ltB, rwx, h1, h2]]; exact ho2, (HK.out.alloc _).step hk2 (fun g hg => .inr (HW.out.2 g hg))⟩
       case measure => simp [intOf]
     | true =>
       go_wp2_with (first | (go_at_call 17; ((with_reducible refine (Hb.out _).mono ?_); rintro e w3 ⟨rfl, rfl⟩)) | (go_at_call 17; ((with_reducible refine (Hs.out _).mono ?_); rintro e w3 ⟨rfl, rfl⟩)) | (at_builtin; refine wpl_append rfl (.tmp 46) (.tmp 48) rfl tU8 (HW.out.keep ((Keeps.refl NoB wr).alloc _) (fun _ _ h => h)) (own_lit (E := encU8) (e := 5) (w := wr) (S := fun _ => True) [115] #[.int .u8 115] rfl 1 rfl trivial (by decide)).sl rfl rfl (by simp; omega) (by simp [maxLen]; omega) (by simp; omega) ?_; intro v' w2 ho2 hk2 hf2))
       go_roundw
       case rel => exact ⟨2 + 1, by decide, rfl, by rw [HE.out, show ltC n 6 = 115 by obtain ⟨h1, h2⟩ := HB.out; simp [ltC, ltB, rwx, h1, h2]]; exact ho2, (HK.out.alloc _).step hk2 (fun g hg => .inr (HW.out.2 g hg))⟩
       case measure => simp [intOf]
  ·have he : (8 - ((1 : Nat) : Int)) = 7 := by decide
   have hn : ((letL 100 n).take (1 + 1)).length = 2 := rfl
   have HE := Lib.hid (show (letL 100 n).take (1 + 1 + 1) = (letL 100 n).take (1 + 1) ++ [ltC n 7] from rfl)
   have Hb : Hid (∀ w : World, Calls Tryz.prog 17 #[.int .i64 (n : Int), .int .i64 7] w fun e w' => e = .returned (.bool (bt n 7)) ∧ w = w') := HH.out 7 (by decide)
   generalize hL : (letL 100 n).take (1 + 1) = L at *
   clear hL
   rw [he]
   clear he
   obtain ⟨b7, hb7⟩ : ∃ b, bt n 7 = b := ⟨_, rfl⟩
   rw [hb7] at Hb
   have HB := Lib.hid hb7
   clear hb7
   cases b7 with
   | false =>
     go_wp2_with (first | (go_at_call 17; ((with_reducible refine (Hb.out _).mono ?_); rintro e w3 ⟨rfl, rfl⟩)) | (at_builtin; refine wpl_append rfl (.tmp 46) (.tmp 48) rfl tU8 (HW.out.keep ((Keeps.refl NoB wr).alloc _) (fun _ _ h => h)) (own_lit (E := encU8) (e := 5) (w := wr) (S := fun _ => True) [45] #[.int .u8 45] rfl 1 rfl trivial (by decide)).sl rfl rfl (by simp; omega) (by simp [maxLen]; omega) (by simp; omega) ?_; intro v' w2 ho2 hk2 hf2))
     go_roundw
     case rel => exact ⟨1 + 1, by decide, rfl, by rw [HE.out, show ltC n 7 = 45 by have h1 := HB.out; simp [ltC, ltB, rwx, h1]]; exact ho2, (HK.out.alloc _).step hk2 (fun g hg => .inr (HW.out.2 g hg))⟩
     case measure => simp [intOf]
   | true =>
     go_wp2_with (first | (go_at_call 17; ((with_reducible refine (Hb.out _).mono ?_); rintro e w3 ⟨rfl, rfl⟩)) | (at_builtin; refine wpl_append rfl (.tmp 46) (.tmp 48) rfl tU8 (HW.out.keep ((Keeps.refl NoB wr).alloc _) (fun _ _ h => h)) (own_lit (E := encU8) (e := 5) (w := wr) (S := fun _ => True) [119] #[.int .u8 119] rfl 1 rfl trivial (by decide)).sl rfl rfl (by simp; omega) (by simp [maxLen]; omega) (by simp; omega) ?_; intro v' w2 ho2 hk2 hf2))
     go_roundw
     case rel => exact ⟨1 + 1, by decide, rfl, by rw [HE.out, show ltC n 7 = 119 by have h1 := HB.out; simp [ltC, ltB, rwx, h1]]; exact ho2, (HK.out.alloc _).step hk2 (fun g hg => .inr (HW.out.2 g hg))⟩
     case measure => simp [intOf]
  ·have he : (8 - ((0 : Nat) : Int)) = 8 := by decide
   have hn : ((letL 100 n).take (0 + 1)).length = 1 := rfl
   have HE := Lib.hid (show (letL 100 n).take (0 + 1 + 1) = (letL 100 n).take (0 + 1) ++ [ltC n 8] from rfl)
   have Hb : Hid (∀ w : World, Calls Tryz.prog 17 #[.int .i64 (n : Int), .int .i64 8] w fun e w' => e = .returned (.bool (bt n 8)) ∧ w = w') := HH.out 8 (by decide)
   generalize hL : (letL 100 n).take (0 + 1) = L at *
   clear hL
   rw [he]
   clear he
   obtain ⟨b8, hb8⟩ : ∃ b, bt n 8 = b := ⟨_, rfl⟩
   rw [hb8] at Hb
   have HB := Lib.hid hb8
   clear hb8
   cases b8 with
   | false =>
     go_wp2_with (first | (go_at_call 17; ((with_reducible refine (Hb.out _).mono ?_); rintro e w3 ⟨rfl, rfl⟩)) | (at_builtin; refine wpl_append rfl (.tmp 46) (.tmp 48) rfl tU8 (HW.out.keep ((Keeps.refl NoB wr).alloc _) (fun _ _ h => h)) (own_lit (E := encU8) (e := 5) (w := wr) (S := fun _ => True) [45] #[.int .u8 45] rfl 1 rfl trivial (by decide)).sl rfl rfl (by simp; omega) (by simp [maxLen]; omega) (by simp; omega) ?_; intro v' w2 ho2 hk2 hf2))
     go_roundw
     case rel => exact ⟨0 + 1, by decide, rfl, by rw [HE.out, show ltC n 8 = 45 by have h1 := HB.out; simp [ltC, ltB, rwx, h1]]; exact ho2, (HK.out.alloc _).step hk2 (fun g hg => .inr (HW.out.2 g hg))⟩
     case measure => simp [intOf]
   | true =>
     go_wp2_with (first | (go_at_call 17; ((with_reducible refine (Hb.out _).mono ?_); rintro e w3 ⟨rfl, rfl⟩)) | (at_builtin; refine wpl_append rfl (.tmp 46) (.tmp 48) rfl tU8 (HW.out.keep ((Keeps.refl NoB wr).alloc _) (fun _ _ h => h)) (own_lit (E := encU8) (e := 5) (w := wr) (S := fun _ => True) [114] #[.int .u8 114] rfl 1 rfl trivial (by decide)).sl rfl rfl (by simp; omega) (by simp [maxLen]; omega) (by simp; omega) ?_; intro v' w2 ho2 hk2 hf2))
     go_roundw
     case rel => exact ⟨0 + 1, by decide, rfl, by rw [HE.out, show ltC n 8 = 114 by have h1 := HB.out; simp [ltC, ltB, rwx, h1]]; exact ho2, (HK.out.alloc _).step hk2 (fun g hg => .inr (HW.out.2 g hg))⟩
     case measure => simp [intOf]
structure LtJ (w wr : World) (M V : Nat) (n : Nat) (l : List UInt8) (v : Value) : Prop where
 mb : Bx wr M [.int .i64 (n : Int)]
 vb : Bx wr V [v]
 own : Own encU8 5 (fun g => w.heap.size <= g ∧ g ≠ M ∧ g ≠ V) wr v l
 keeps : Keeps NoB w wr
 loM : w.heap.size <= M
 loV : w.heap.size <= V
 ne : M ≠ V
theorem LtJ.grows {w wr w2 : World} {M V n : Nat} {l l2 : List UInt8} {v v2 : Value} (h : LtJ w wr M V n l v) (ho : Own encU8 5 (fun g => w.heap.size <= g ∧ g ≠ M ∧ g ≠ V) w2 v2 l2) (k : Keeps (fun g => v.ownBlock = some g) wr w2) :
 LtJ w (w2.setCell ⟨V, 0, none⟩ v2) M V n l2 v2 := by
 have kv : ∀ g, v.ownBlock = some g -> w.heap.size <= g ∧ g ≠ M ∧ g ≠ V := fun g hg => h.own.2 g hg
 have k2 := keeps_set w2 ⟨V, 0, none⟩ v2
 refine ⟨(h.mb.keep k (fun hg => (kv M hg).2.1 rfl)).keep k2 (fun e => h.ne e), (h.vb.keep k (fun hg => (kv V hg).2.2 rfl)).put 0 v2, ho.keep k2 (fun g hg e => (ho.2 g hg).2.2 e), ?_, h.loM, h.loV, h.ne⟩
 exact (h.keeps.step k (fun g hg => .inr (kv g hg).1)).step k2 (fun g e => .inr (by have e' : g = V := e; rw [e']; exact h.loV))
theorem LtJ.on {w wr w2 : World} {M V n : Nat} {l : List UInt8} {v : Value} (h : LtJ w wr M V n l v) (k : Keeps NoB wr w2) : LtJ w w2 M V n l v :=
 ⟨h.mb.on k, h.vb.on k, h.own.keep k (fun _ _ h => h), h.keeps.trans k, h.loM, h.loV, h.ne⟩
def basL (n : Nat) : List UInt8 := [100, ltB n 8, ltB n 7, ltB n 6, ltB n 5, ltB n 4, ltB n 3, ltB n 2, ltB n 1, ltB n 0]
theorem bit_and (n k : Nat) (hn : n <= 4095) : (bits BinOp.and IntKind.i64 ((n / 2 ^ k : Nat) : Int) 1 == 1) = bt n k := by
 have hq : n / 2 ^ k <= 4095 := Nat.le_trans (Nat.div_le_self _ _) hn
 have h := bits_and_i64_nat (n / 2 ^ k) 1 (by omega) (by omega)
 rw [show ((1 : Nat) : Int) = 1 from rfl, Nat.and_one_is_mod] at h
 rw [h]
 unfold bt
 rw [Bool.eq_iff_iff, beq_iff_eq, decide_eq_true_eq]
 omega
theorem bit_and2 (n x : Nat) (hn : n <= 4095) (hx : x <= 12) : (bits BinOp.and IntKind.i64 (n : Int) ((2 ^ x : Nat) : Int) == 0) = !bt n x := by
 have hp : 2 ^ x <= 2 ^ 12 := Nat.pow_le_pow_right (by decide) hx
 have h := bits_and_i64_nat n (2 ^ x) (by omega) (by omega)
 have h2 : n &&& 2 ^ x = if bt n x then 2 ^ x else 0 := by
  have hb : bt n x = n.testBit x := by unfold bt; rw [Nat.testBit_eq_decide_div_mod_eq]
  rw [hb]
  apply Nat.eq_of_testBit_eq
  intro i
  rw [Nat.testBit_and, Nat.testBit_two_pow]
  by_cases hi : x = i
  ·subst hi
   cases hq : n.testBit x
   ·simp
   ·simp [Nat.testBit_two_pow]
  ·have : decide (x = i) = false := by simpa using hi
   rw [this, Bool.and_false]
   split
   ·rw [Nat.testBit_two_pow, this]
   ·simp
 have hp0 : 0 < 2 ^ x := Nat.two_pow_pos x
 rw [h, h2]
 cases bt n x
 ·simp
 ·simp only [if_true, Bool.not_true, beq_eq_false_iff_ne]
  omega
def mkL (n : Nat) (L : List UInt8) (k x : Nat) (both alone : UInt8) : List UInt8 := if bt n x then L.set k (if L[k]? = some 120 then both else alone) else L
theorem mark_any {w wr : World} {M V n : Nat} {L : List UInt8} {v : Value} (h : LtJ w wr M V n L v) (hn : n <= 4095) (hL : L.length = 10) (k x : Nat) (hk : k < 10) (hx : x <= 12) (both alone : UInt8) {z : Int} (hz : ((2 ^ x : Nat) : Int) = z) (hz1 : 0 <= z) (hz2 : z <= 4096) :
 Calls Tryz.prog 139 #[.int .i64 (k : Int), .int .i64 z, .int .u8 (both.toNat : Int), .int .u8 (alone.toNat : Int), .pointer (some ⟨M, 0, none⟩), .pointer (some ⟨V, 0, none⟩)] wr fun e w' => e = .returned (.tuple #[]) ∧ LtJ w w' M V n (mkL n L k x both alone) v := by
 have HJ := Lib.hid h
 have hb := bit_and2 n x hn hx
 rw [hz] at hb
 have a0 := h.mb.cell 0 _ rfl
 have a1 := h.vb.cell 0 _ rfl
 have al := h.mb.lt
 have bl := h.vb.lt
 obtain ⟨c, hc⟩ : ∃ c, L[k]? = some c := ⟨_, List.getElem?_eq_getElem (by omega)⟩
 obtain ⟨g, cap, cur, rfl, hS, hg, hcap, hmax, hsz, htk⟩ := h.own.row (by omega)
 have hm := h.own.at
 obtain ⟨g', o', e', _, gl, hcc⟩ := hm.at hc
 cases e'
 have t0 : wr.cell? ⟨g, k, none⟩ = some (.int .u8 (c.toNat : Int)) := by
  have := hcc 0 _ rfl
  simpa [encU8] using this
 have tf := (frozen_of_row wr g k cur _ hg)
 obtain ⟨bb, hbb⟩ : ∃ bb, bt n x = bb := ⟨_, rfl⟩
 rw [hbb] at hb
 have HU : Hid (∀ y : UInt8, LtJ w (wr.setCell ⟨g, k, none⟩ (.int .u8 (y.toNat : Int))) M V n (L.set k y) (.slice (some ⟨g, 0, none⟩) L.length cap)) := Lib.hid fun y => by
  have k2 := keeps_set wr ⟨g, k, none⟩ (.int .u8 (y.toNat : Int))
  have ho := Own.stored h.own k 0 c y (.int .u8 (y.toNat : Int)) hc (by decide) rfl
  rw [show k * encU8.k + 0 = k by simp [encU8]] at ho
  exact ⟨h.mb.keep k2 (fun e => hS.2.1 (show g = M from (show M = g from e).symm)), h.vb.keep k2 (fun e => hS.2.2 (show g = V from (show V = g from e).symm)), ho, h.keeps.step k2 (fun q e => .inr (by have e' : q = g := e; rw [e']; exact hS.1)), h.loM, h.loV, h.ne⟩
 have HM : Hid (mkL n L k x both alone = if bb then L.set k (if c = 120 then both else alone) else L) := Lib.hid (by unfold mkL; rw [hbb, hc]; simp)
 rw [hL]
 rw [hL] at HJ HU a1 hcap
 have Hbb := byte_eq c 120 (by decide) (by decide)
 have HC := Lib.hid Hbb
 clear h hc hm hcc hg htk hsz hbb Hbb hL
 cases bb with
 | false =>
   go_enter Tryz.func139, Tryz.ntmps139
   go_wp2
   go_end0
   have HM2 : mkL n L k x both alone = L := by rw [HM.out]; rfl
   exact ⟨rfl, by rw [HM2]; exact HJ.out⟩
 | true =>
   by_cases h120 : c = 120
   ·have hq : ((c.toNat : Int) == 120) = true := by rw [HC.out]; simpa using h120
    have H120 := Lib.hid h120
    clear h120
    go_enter Tryz.func139, Tryz.ntmps139
    go_wp2
    go_end0
    have HM2 : mkL n L k x both alone = L.set k (if c = 120 then both else alone) := by rw [HM.out]; rfl
    exact ⟨rfl, by rw [HM2, if_pos H120.out]; exact HU.out both⟩
   ·have hq : ((c.toNat : Int) == 120) = false := by rw [HC.out]; simpa using h120
    have H120 := Lib.hid h120
    clear h120
    go_enter Tryz.func139, Tryz.ntmps139
    go_wp2
    go_end0
    have HM2 : mkL n L k x both alone = L.set k (if c = 120 then both else alone) := by rw [HM.out]; rfl
    exact ⟨rfl, by rw [HM2, if_neg H120.out]; exact HU.out alone⟩
theorem mkL_len (n : Nat) (L : List UInt8) (k x : Nat) (a b : UInt8) : (mkL n L k x a b).length = L.length := by
 unfold mkL
 split
 ·simp
 ·rfl
theorem marks_eq (n : Nat) : mkL n (mkL n (mkL n (basL n) 3 11 115 83) 6 10 115 83) 9 9 116 84 = letL 100 n := by
 unfold mkL basL letL ltC ltB rwx
 cases bt n 11 <;> cases bt n 10 <;> cases bt n 9 <;> cases bt n 6 <;> cases bt n 3 <;> cases bt n 0 <;> simp
theorem modeletters_any (n : Nat) (hn : n <= 4095) (w : World) : Calls Tryz.prog 110 #[.int .u8 100, .int .i64 (n : Int)] w fun e w' => e = .returned (.string ⟨(letL 100 n).toArray⟩) ∧ Keeps NoB w w' := by
 have hn0 : (0 : Int) <= n := by omega
 have hn1 : (n : Int) <= 4095 := by omega
 have HN := Lib.hid hn
 go_enter Tryz.func110, Tryz.ntmps110
 go_upto_region 2 with fail
 have HJ0 : Hid (LtJ w (((w.alloc (.cells #[.int .i64 (n : Int)] 3)).alloc (.cells #[.int .u8 100] 5)).alloc (.cells #[.slice (some ⟨w.heap.size + 1, 0, none⟩) 1 1] 81)) w.heap.size (w.heap.size + 1 + 1) n [100] (.slice (some ⟨w.heap.size + 1, 0, none⟩) 1 1)) := by
  have k1 : Keeps NoB w (w.alloc (.cells #[.int .i64 (n : Int)] 3)) := (Keeps.refl _ _).alloc _
  have z1 : (w.alloc (.cells #[.int .i64 (n : Int)] 3)).heap.size = w.heap.size + 1 := by simp
  have k2 : Keeps NoB (w.alloc (.cells #[.int .i64 (n : Int)] 3)) ((w.alloc (.cells #[.int .i64 (n : Int)] 3)).alloc (.cells #[.int .u8 100] 5)) := (Keeps.refl _ _).alloc _
  have z2 : ((w.alloc (.cells #[.int .i64 (n : Int)] 3)).alloc (.cells #[.int .u8 100] 5)).heap.size = w.heap.size + 1 + 1 := by simp
  have k3 : Keeps NoB ((w.alloc (.cells #[.int .i64 (n : Int)] 3)).alloc (.cells #[.int .u8 100] 5)) (((w.alloc (.cells #[.int .i64 (n : Int)] 3)).alloc (.cells #[.int .u8 100] 5)).alloc (.cells #[.slice (some ⟨w.heap.size + 1, 0, none⟩) 1 1] 81)) := (Keeps.refl _ _).alloc _
  have ho := own_lit (E := encU8) (e := 5) (w := w.alloc (.cells #[.int .i64 (n : Int)] 3)) (S := fun g => w.heap.size <= g ∧ g ≠ w.heap.size ∧ g ≠ w.heap.size + 1 + 1) [100] #[.int .u8 100] rfl 1 rfl (by rw [z1]; omega) (by decide)
  rw [z1] at ho
  have b3 := Bx.new (Keeps.refl NoB (((w.alloc (.cells #[.int .i64 (n : Int)] 3)).alloc (.cells #[.int .u8 100] 5)).alloc (.cells #[.slice (some ⟨w.heap.size + 1, 0, none⟩) 1 1] 81)))
  rw [z2] at b3
  exact ⟨Bx.new (k2.trans k3), b3, ho.keep k3 (fun _ _ h => h), (k1.trans k2).trans k3, Nat.le_refl _, by omega, by omega⟩
 generalize (((w.alloc (.cells #[.int .i64 (n : Int)] 3)).alloc (.cells #[.int .u8 100] 5)).alloc (.cells #[.slice (some ⟨w.heap.size + 1, 0, none⟩) 1 1] 81)) = w1 at *
 have hV : Hid (w.heap.size + 1 + 1 = w.heap.size + 2) := rfl
 obtain ⟨V, hVV⟩ : ∃ V, w.heap.size + 1 + 1 = V := ⟨_, rfl⟩
 rw [hVV] at HJ0 ⊢
 obtain ⟨M, hMM⟩ : ∃ M, w.heap.size = M := ⟨_, rfl⟩
 have hlM : Hid (w.heap.size = M) := hMM
 rw [show (⟨w.heap.size, 0, none⟩ : Addr) = ⟨M, 0, none⟩ by rw [hMM]]
 clear hVV hMM hV
 go_wp2_with fail
 go_loopw [6] (fun i wr => ∃ (j : Nat) (v : Value), j <= 9 ∧ i = .int .i64 (8 - (j : Int)) ∧ LtJ w wr M V n ((basL n).take (j + 1)) v) (fun i _ => (intOf i + 1).toNat)
 case atStart => exact ⟨0, _, by omega, rfl, by rw [<- hlM.out] ; exact HJ0.out⟩
 case round =>
  obtain ⟨j, v, hj, rfl, hJ⟩ := hrel
  have HJ := Lib.hid hJ
  have a0 := hJ.mb.cell 0 _ rfl
  have a1 := hJ.vb.cell 0 _ rfl
  have al := hJ.mb.lt
  have bl := hJ.vb.lt
  have bf := hJ.vb.fz 0
  clear hJ HJ0
  rcases (show j = 9 ∨ j = 8 ∨ j = 7 ∨ j = 6 ∨ j = 5 ∨ j = 4 ∨ j = 3 ∨ j = 2 ∨ j = 1 ∨ j = 0 by omega) with rfl | rfl | rfl | rfl | rfl | rfl | rfl | rfl | rfl | rfl
  ·have he : (8 - ((9 : Nat) : Int)) = -1 := by decide
   rw [he]
   clear he
   rw [show (basL n).take (9 + 1) = basL n from rfl] at HJ
   have H1 : Hid (∀ wx : World, LtJ w wx M V n (basL n) v -> Calls Tryz.prog 139 #[.int .i64 3, .int .i64 2048, .int .u8 115, .int .u8 83, .pointer (some ⟨M, 0, none⟩), .pointer (some ⟨V, 0, none⟩)] wx fun e w' => e = .returned (.tuple #[]) ∧ LtJ w w' M V n (mkL n (basL n) 3 11 115 83) v) :=
    Lib.hid fun wx h => mark_any h HN.out rfl 3 11 (by decide) (by decide) 115 83 rfl (by decide) (by decide)
   have H2 : Hid (∀ wx : World, LtJ w wx M V n (mkL n (basL n) 3 11 115 83) v -> Calls Tryz.prog 139 #[.int .i64 6, .int .i64 1024, .int .u8 115, .int .u8 83, .pointer (some ⟨M, 0, none⟩), .pointer (some ⟨V, 0, none⟩)] wx fun e w' => e = .returned (.tuple #[]) ∧ LtJ w w' M V n (mkL n (mkL n (basL n) 3 11 115 83) 6 10 115 83) v) :=
    Lib.hid fun wx h => mark_any h HN.out (mkL_len _ _ _ _ _ _) 6 10 (by decide) (by decide) 115 83 rfl (by decide) (by decide)
   have H3 : Hid (∀ wx : World, LtJ w wx M V n (mkL n (mkL n (basL n) 3 11 115 83) 6 10 115 83) v -> Calls Tryz.prog 139 #[.int .i64 9, .int .i64 512, .int .u8 116, .int .u8 84, .pointer (some ⟨M, 0, none⟩), .pointer (some ⟨V, 0, none⟩)] wx fun e w' => e = .returned (.tuple #[]) ∧ LtJ w w' M V n (letL 100 n) v) :=
    Lib.hid fun wx h => by
     rw [<- marks_eq]
     exact mark_any h HN.out ((mkL_len _ _ _ _ _ _).trans (mkL_len _ _ _ _ _ _)) 9 9 (by decide) (by decide) 116 84 rfl (by decide) (by decide)
   clear a0 a1 al bl bf
   go_wp2_with (first | ((with_reducible refine (H1.out _ HJ.out).mono ?_); rintro e w3 ⟨rfl, h3⟩) | ((with_reducible refine (H2.out _ h3).mono ?_); rintro e w4 ⟨rfl, h4⟩) | ((with_reducible refine (H3.out _ h4).mono ?_); rintro e w5 ⟨rfl, h5⟩; have hcv := own_str h5.own; have a1 := h5.vb.cell 0 _ rfl; have bl := h5.vb.lt; have HK := Lib.hid h5.keeps))
   go_ret
   exact ⟨rfl, HK.out⟩
  ·have he : (8 - ((8 : Nat) : Int)) = 0 := by decide
   have hn : ((basL n).take (8 + 1)).length = 9 := rfl
   have HE := Lib.hid (show (basL n).take (8 + 1 + 1) = (basL n).take (8 + 1) ++ [ltB n 0] from rfl)
   have hb0 := bit_and n 0 HN.out
   have hb : (bits BinOp.and IntKind.i64 ((n : Int)) 1 == 1) = bt n 0 := by
    rw [<- hb0]
    simp
   clear hb0
   generalize hL : (basL n).take (8 + 1) = L at *
   clear hL
   rw [he]
   clear he
   obtain ⟨bb, hbb⟩ : ∃ bb, bt n 0 = bb := ⟨_, rfl⟩
   rw [hbb] at hb
   have HB := Lib.hid hbb
   clear hbb
   cases bb with
   | false =>
     go_wp2_with (at_builtin; go_loud (refine wpl_append rfl (.tmp 23) (.tmp 25) rfl tU8 (HJ.out.own.keep ((Keeps.refl NoB wr).alloc _) (fun _ _ h => h)) (own_lit (E := encU8) (e := 5) (w := wr) (S := fun _ => True) [45] #[.int .u8 45] rfl 1 rfl trivial (by decide)).sl rfl rfl (by have := HJ.out.loM; have := HJ.out.loV; simp; omega) (by simp [maxLen]; omega) (by simp; omega) ?_))
     intro v' w2 ho2 hk2 hf2
     have ht2 := (HJ.out.on ((Keeps.refl NoB wr).alloc (.cells #[.int .u8 45] 5))).grows ho2 hk2
     obtain ⟨p', c', hv', _⟩ := ho2.sl
     rw [show (L ++ [(45 : UInt8)]).length = 10 by simp [hn]] at hv'
     subst hv'
     have HT2 := Lib.hid ht2
     have b2 : V < w2.heap.size := by have := hk2.size; simp at this; omega
     have hvb := (HJ.out.vb.on ((Keeps.refl NoB wr).alloc (.cells #[.int .u8 45] 5))).keep hk2 (fun hg => (HJ.out.own.2 V hg).2.2 rfl)
     have bf2 := hvb.fz 0
     have c2 := hvb.cell 0 _ rfl
     clear hvb
     clear ht2 ho2 hk2 hf2
     go_wp2_with fail
     go_roundw
     case rel => exact ⟨8 + 1, _, by decide, rfl, by rw [HE.out, show ltB n 0 = 45 by have h1 := HB.out; simp [ltB, rwx, h1]]; exact HT2.out⟩
     case measure => simp [intOf]
   | true =>
     go_wp2_with (at_builtin; go_loud (refine wpl_append rfl (.tmp 23) (.tmp 25) rfl tU8 (HJ.out.own.keep ((Keeps.refl NoB wr).alloc _) (fun _ _ h => h)) (own_lit (E := encU8) (e := 5) (w := wr) (S := fun _ => True) [120] #[.int .u8 120] rfl 1 rfl trivial (by decide)).sl rfl rfl (by have := HJ.out.loM; have := HJ.out.loV; simp; omega) (by simp [maxLen]; omega) (by simp; omega) ?_))
     intro v' w2 ho2 hk2 hf2
     have ht2 := (HJ.out.on ((Keeps.refl NoB wr).alloc (.cells #[.int .u8 120] 5))).grows ho2 hk2
     obtain ⟨p', c', hv', _⟩ := ho2.sl
     rw [show (L ++ [(120 : UInt8)]).length = 10 by simp [hn]] at hv'
     subst hv'
     have HT2 := Lib.hid ht2
     have b2 : V < w2.heap.size := by have := hk2.size; simp at this; omega
     have hvb := (HJ.out.vb.on ((Keeps.refl NoB wr).alloc (.cells #[.int .u8 120] 5))).keep hk2 (fun hg => (HJ.out.own.2 V hg).2.2 rfl)
     have bf2 := hvb.fz 0
     have c2 := hvb.cell 0 _ rfl
     clear hvb
     clear ht2 ho2 hk2 hf2
     go_wp2_with fail
     go_roundw
     case rel => exact ⟨8 + 1, _, by decide, rfl, by rw [HE.out, show ltB n 0 = 120 by have h1 := HB.out; simp [ltB, rwx, h1]]; exact HT2.out⟩
     case measure => simp [intOf]
  ·have he : (8 - ((7 : Nat) : Int)) = 1 := by decide
   have hn : ((basL n).take (7 + 1)).length = 8 := rfl
   have HE := Lib.hid (show (basL n).take (7 + 1 + 1) = (basL n).take (7 + 1) ++ [ltB n 1] from rfl)
   have hb0 := bit_and n 1 HN.out
   have hb : (bits BinOp.and IntKind.i64 ((n : Int) / 2) 1 == 1) = bt n 1 := by
    rw [<- hb0]
    simp
   clear hb0
   generalize hL : (basL n).take (7 + 1) = L at *
   clear hL
   rw [he]
   clear he
   obtain ⟨bb, hbb⟩ : ∃ bb, bt n 1 = bb := ⟨_, rfl⟩
   rw [hbb] at hb
   have HB := Lib.hid hbb
   clear hbb
   cases bb with
   | false =>
     go_wp2_with (at_builtin; go_loud (refine wpl_append rfl (.tmp 23) (.tmp 25) rfl tU8 (HJ.out.own.keep ((Keeps.refl NoB wr).alloc _) (fun _ _ h => h)) (own_lit (E := encU8) (e := 5) (w := wr) (S := fun _ => True) [45] #[.int .u8 45] rfl 1 rfl trivial (by decide)).sl rfl rfl (by have := HJ.out.loM; have := HJ.out.loV; simp; omega) (by simp [maxLen]; omega) (by simp; omega) ?_))
     intro v' w2 ho2 hk2 hf2
     have ht2 := (HJ.out.on ((Keeps.refl NoB wr).alloc (.cells #[.int .u8 45] 5))).grows ho2 hk2
     obtain ⟨p', c', hv', _⟩ := ho2.sl
     rw [show (L ++ [(45 : UInt8)]).length = 9 by simp [hn]] at hv'
     subst hv'
     have HT2 := Lib.hid ht2
     have b2 : V < w2.heap.size := by have := hk2.size; simp at this; omega
     have hvb := (HJ.out.vb.on ((Keeps.refl NoB wr).alloc (.cells #[.int .u8 45] 5))).keep hk2 (fun hg => (HJ.out.own.2 V hg).2.2 rfl)
     have bf2 := hvb.fz 0
     have c2 := hvb.cell 0 _ rfl
     clear hvb
     clear ht2 ho2 hk2 hf2
     go_wp2_with fail
     go_roundw
     case rel => exact ⟨7 + 1, _, by decide, rfl, by rw [HE.out, show ltB n 1 = 45 by have h1 := HB.out; simp [ltB, rwx, h1]]; exact HT2.out⟩
     case measure => simp [intOf]
   | true =>
     go_wp2_with (at_builtin; go_loud (refine wpl_append rfl (.tmp 23) (.tmp 25) rfl tU8 (HJ.out.own.keep ((Keeps.refl NoB wr).alloc _) (fun _ _ h => h)) (own_lit (E := encU8) (e := 5) (w := wr) (S := fun _ => True) [119] #[.int .u8 119] rfl 1 rfl trivial (by decide)).sl rfl rfl (by have := HJ.out.loM; have := HJ.out.loV; simp; omega) (by simp [maxLen]; omega) (by simp; omega) ?_))
     intro v' w2 ho2 hk2 hf2
     have ht2 := (HJ.out.on ((Keeps.refl NoB wr).alloc (.cells #[.int .u8 119] 5))).grows ho2 hk2
     obtain ⟨p', c', hv', _⟩ := ho2.sl
     rw [show (L ++ [(119 : UInt8)]).length = 9 by simp [hn]] at hv'
     subst hv'
     have HT2 := Lib.hid ht2
     have b2 : V < w2.heap.size := by have := hk2.size; simp at this; omega
     have hvb := (HJ.out.vb.on ((Keeps.refl NoB wr).alloc (.cells #[.int .u8 119] 5))).keep hk2 (fun hg => (HJ.out.own.2 V hg).2.2 rfl)
     have bf2 := hvb.fz 0
     have c2 := hvb.cell 0 _ rfl
     clear hvb
     clear ht2 ho2 hk2 hf2
     go_wp2_with fail
     go_roundw
     case rel => exact ⟨7 + 1, _, by decide, rfl, by rw [HE.out, show ltB n 1 = 119 by have h1 := HB.out; simp [ltB, rwx, h1]]; exact HT2.out⟩
     case measure => simp [intOf]
  ·have he : (8 - ((6 : Nat) : Int)) = 2 := by decide
   have hn : ((basL n).take (6 + 1)).length = 7 := rfl
   have HE := Lib.hid (show (basL n).take (6 + 1 + 1) = (basL n).take (6 + 1) ++ [ltB n 2] from rfl)
   have hb0 := bit_and n 2 HN.out
   have hb : (bits BinOp.and IntKind.i64 ((n : Int) / 4) 1 == 1) = bt n 2 := by
    rw [<- hb0]
    simp
   clear hb0
   generalize hL : (basL n).take (6 + 1) = L at *
   clear hL
   rw [he]
   clear he
   obtain ⟨bb, hbb⟩ : ∃ bb, bt n 2 = bb := ⟨_, rfl⟩
   rw [hbb] at hb
   have HB := Lib.hid hbb
   clear hbb
   cases bb with
   | false =>
     go_wp2_with (at_builtin; go_loud (refine wpl_append rfl (.tmp 23) (.tmp 25) rfl tU8 (HJ.out.own.keep ((Keeps.refl NoB wr).alloc _) (fun _ _ h => h)) (own_lit (E := encU8) (e := 5) (w := wr) (S := fun _ => True) [45] #[.int .u8 45] rfl 1 rfl trivial (by decide)).sl rfl rfl (by have := HJ.out.loM; have := HJ.out.loV; simp; omega) (by simp [maxLen]; omega) (by simp; omega) ?_))
     intro v' w2 ho2 hk2 hf2
     have ht2 := (HJ.out.on ((Keeps.refl NoB wr).alloc (.cells #[.int .u8 45] 5))).grows ho2 hk2
     obtain ⟨p', c', hv', _⟩ := ho2.sl
     rw [show (L ++ [(45 : UInt8)]).length = 8 by simp [hn]] at hv'
     subst hv'
     have HT2 := Lib.hid ht2
     have b2 : V < w2.heap.size := by have := hk2.size; simp at this; omega
     have hvb := (HJ.out.vb.on ((Keeps.refl NoB wr).alloc (.cells #[.int .u8 45] 5))).keep hk2 (fun hg => (HJ.out.own.2 V hg).2.2 rfl)
     have bf2 := hvb.fz 0
     have c2 := hvb.cell 0 _ rfl
     clear hvb
     clear ht2 ho2 hk2 hf2
     go_wp2_with fail
     go_roundw
     case rel => exact ⟨6 + 1, _, by decide, rfl, by rw [HE.out, show ltB n 2 = 45 by have h1 := HB.out; simp [ltB, rwx, h1]]; exact HT2.out⟩
     case measure => simp [intOf]
   | true =>
     go_wp2_with (at_builtin; go_loud (refine wpl_append rfl (.tmp 23) (.tmp 25) rfl tU8 (HJ.out.own.keep ((Keeps.refl NoB wr).alloc _) (fun _ _ h => h)) (own_lit (E := encU8) (e := 5) (w := wr) (S := fun _ => True) [114] #[.int .u8 114] rfl 1 rfl trivial (by decide)).sl rfl rfl (by have := HJ.out.loM; have := HJ.out.loV; simp; omega) (by simp [maxLen]; omega) (by simp; omega) ?_))
     intro v' w2 ho2 hk2 hf2
     have ht2 := (HJ.out.on ((Keeps.refl NoB wr).alloc (.cells #[.int .u8 114] 5))).grows ho2 hk2
     obtain ⟨p', c', hv', _⟩ := ho2.sl
     rw [show (L ++ [(114 : UInt8)]).length = 8 by simp [hn]] at hv'
     subst hv'
     have HT2 := Lib.hid ht2
     have b2 : V < w2.heap.size := by have := hk2.size; simp at this; omega
     have hvb := (HJ.out.vb.on ((Keeps.refl NoB wr).alloc (.cells #[.int .u8 114] 5))).keep hk2 (fun hg => (HJ.out.own.2 V hg).2.2 rfl)
     have bf2 := hvb.fz 0
     have c2 := hvb.cell 0 _ rfl
     clear hvb
     clear ht2 ho2 hk2 hf2
     go_wp2_with fail
     go_roundw
     case rel => exact ⟨6 + 1, _, by decide, rfl, by rw [HE.out, show ltB n 2 = 114 by have h1 := HB.out; simp [ltB, rwx, h1]]; exact HT2.out⟩
     case measure => simp [intOf]
  ·have he : (8 - ((5 : Nat) : Int)) = 3 := by decide
   have hn : ((basL n).take (5 + 1)).length = 6 := rfl
   have HE := Lib.hid (show (basL n).take (5 + 1 + 1) = (basL n).take (5 + 1) ++ [ltB n 3] from rfl)
   have hb0 := bit_and n 3 HN.out
   have hb : (bits BinOp.and IntKind.i64 ((n : Int) / 8) 1 == 1) = bt n 3 := by
    rw [<- hb0]
    simp
   clear hb0
   generalize hL : (basL n).take (5 + 1) = L at *
   clear hL
   rw [he]
   clear he
   obtain ⟨bb, hbb⟩ : ∃ bb, bt n 3 = bb := ⟨_, rfl⟩
   rw [hbb] at hb
   have HB := Lib.hid hbb
   clear hbb
   cases bb with
   | false =>
     go_wp2_with (at_builtin; go_loud (refine wpl_append rfl (.tmp 23) (.tmp 25) rfl tU8 (HJ.out.own.keep ((Keeps.refl NoB wr).alloc _) (fun _ _ h => h)) (own_lit (E := encU8) (e := 5) (w := wr) (S := fun _ => True) [45] #[.int .u8 45] rfl 1 rfl trivial (by decide)).sl rfl rfl (by have := HJ.out.loM; have := HJ.out.loV; simp; omega) (by simp [maxLen]; omega) (by simp; omega) ?_))
     intro v' w2 ho2 hk2 hf2
     have ht2 := (HJ.out.on ((Keeps.refl NoB wr).alloc (.cells #[.int .u8 45] 5))).grows ho2 hk2
     obtain ⟨p', c', hv', _⟩ := ho2.sl
     rw [show (L ++ [(45 : UInt8)]).length = 7 by simp [hn]] at hv'
     subst hv'
     have HT2 := Lib.hid ht2
     have b2 : V < w2.heap.size := by have := hk2.size; simp at this; omega
     have hvb := (HJ.out.vb.on ((Keeps.refl NoB wr).alloc (.cells #[.int .u8 45] 5))).keep hk2 (fun hg => (HJ.out.own.2 V hg).2.2 rfl)
     have bf2 := hvb.fz 0
     have c2 := hvb.cell 0 _ rfl
     clear hvb
     clear ht2 ho2 hk2 hf2
     go_wp2_with fail
     go_roundw
     case rel => exact ⟨5 + 1, _, by decide, rfl, by rw [HE.out, show ltB n 3 = 45 by have h1 := HB.out; simp [ltB, rwx, h1]]; exact HT2.out⟩
     case measure => simp [intOf]
   | true =>
     go_wp2_with (at_builtin; go_loud (refine wpl_append rfl (.tmp 23) (.tmp 25) rfl tU8 (HJ.out.own.keep ((Keeps.refl NoB wr).alloc _) (fun _ _ h => h)) (own_lit (E := encU8) (e := 5) (w := wr) (S := fun _ => True) [120] #[.int .u8 120] rfl 1 rfl trivial (by decide)).sl rfl rfl (by have := HJ.out.loM; have := HJ.out.loV; simp; omega) (by simp [maxLen]; omega) (by simp; omega) ?_))
     intro v' w2 ho2 hk2 hf2
     have ht2 := (HJ.out.on ((Keeps.refl NoB wr).alloc (.cells #[.int .u8 120] 5))).grows ho2 hk2
     obtain ⟨p', c', hv', _⟩ := ho2.sl
     rw [show (L ++ [(120 : UInt8)]).length = 7 by simp [hn]] at hv'
     subst hv'
     have HT2 := Lib.hid ht2
     have b2 : V < w2.heap.size := by have := hk2.size; simp at this; omega
     have hvb := (HJ.out.vb.on ((Keeps.refl NoB wr).alloc (.cells #[.int .u8 120] 5))).keep hk2 (fun hg => (HJ.out.own.2 V hg).2.2 rfl)
     have bf2 := hvb.fz 0
     have c2 := hvb.cell 0 _ rfl
     clear hvb
     clear ht2 ho2 hk2 hf2
     go_wp2_with fail
     go_roundw
     case rel => exact ⟨5 + 1, _, by decide, rfl, by rw [HE.out, show ltB n 3 = 120 by have h1 := HB.out; simp [ltB, rwx, h1]]; exact HT2.out⟩
     case measure => simp [intOf]
  ·have he : (8 - ((4 : Nat) : Int)) = 4 := by decide
   have hn : ((basL n).take (4 + 1)).length = 5 := rfl
   have HE := Lib.hid (show (basL n).take (4 + 1 + 1) = (basL n).take (4 + 1) ++ [ltB n 4] from rfl)
   have hb0 := bit_and n 4 HN.out
   have hb : (bits BinOp.and IntKind.i64 ((n : Int) / 16) 1 == 1) = bt n 4 := by
    rw [<- hb0]
    simp
   clear hb0
   generalize hL : (basL n).take (4 + 1) = L at *
   clear hL
   rw [he]
   clear he
   obtain ⟨bb, hbb⟩ : ∃ bb, bt n 4 = bb := ⟨_, rfl⟩
   rw [hbb] at hb
   have HB := Lib.hid hbb
   clear hbb
   cases bb with
   | false =>
     go_wp2_with (at_builtin; go_loud (refine wpl_append rfl (.tmp 23) (.tmp 25) rfl tU8 (HJ.out.own.keep ((Keeps.refl NoB wr).alloc _) (fun _ _ h => h)) (own_lit (E := encU8) (e := 5) (w := wr) (S := fun _ => True) [45] #[.int .u8 45] rfl 1 rfl trivial (by decide)).sl rfl rfl (by have := HJ.out.loM; have := HJ.out.loV; simp; omega) (by simp [maxLen]; omega) (by simp; omega) ?_))
     intro v' w2 ho2 hk2 hf2
     have ht2 := (HJ.out.on ((Keeps.refl NoB wr).alloc (.cells #[.int .u8 45] 5))).grows ho2 hk2
     obtain ⟨p', c', hv', _⟩ := ho2.sl
     rw [show (L ++ [(45 : UInt8)]).length = 6 by simp [hn]] at hv'
     subst hv'
     have HT2 := Lib.hid ht2
     have b2 : V < w2.heap.size := by have := hk2.size; simp at this; omega
     have hvb := (HJ.out.vb.on ((Keeps.refl NoB wr).alloc (.cells #[.int .u8 45] 5))).keep hk2 (fun hg => (HJ.out.own.2 V hg).2.2 rfl)
     have bf2 := hvb.fz 0
     have c2 := hvb.cell 0 _ rfl
     clear hvb
     clear ht2 ho2 hk2 hf2
     go_wp2_with fail
     go_roundw
     case rel => exact ⟨4 + 1, _, by decide, rfl, by rw [HE.out, show ltB n 4 = 45 by have h1 := HB.out; simp [ltB, rwx, h1]]; exact HT2.out⟩
     case measure => simp [intOf]
   | true =>
     go_wp2_with (at_builtin; go_loud (refine wpl_append rfl (.tmp 23) (.tmp 25) rfl tU8 (HJ.out.own.keep ((Keeps.refl NoB wr).alloc _) (fun _ _ h => h)) (own_lit (E := encU8) (e := 5) (w := wr) (S := fun _ => True) [119] #[.int .u8 119] rfl 1 rfl trivial (by decide)).sl rfl rfl (by have := HJ.out.loM; have := HJ.out.loV; simp; omega) (by simp [maxLen]; omega) (by simp; omega) ?_))
     intro v' w2 ho2 hk2 hf2
     have ht2 := (HJ.out.on ((Keeps.refl NoB wr).alloc (.cells #[.int .u8 119] 5))).grows ho2 hk2
     obtain ⟨p', c', hv', _⟩ := ho2.sl
     rw [show (L ++ [(119 : UInt8)]).length = 6 by simp [hn]] at hv'
     subst hv'
     have HT2 := Lib.hid ht2
     have b2 : V < w2.heap.size := by have := hk2.size; simp at this; omega
     have hvb := (HJ.out.vb.on ((Keeps.refl NoB wr).alloc (.cells #[.int .u8 119] 5))).keep hk2 (fun hg => (HJ.out.own.2 V hg).2.2 rfl)
     have bf2 := hvb.fz 0
     have c2 := hvb.cell 0 _ rfl
     clear hvb
     clear ht2 ho2 hk2 hf2
     go_wp2_with fail
     go_roundw
     case rel => exact ⟨4 + 1, _, by decide, rfl, by rw [HE.out, show ltB n 4 = 119 by have h1 := HB.out; simp [ltB, rwx, h1]]; exact HT2.out⟩
     case measure => simp [intOf]
  ·have he : (8 - ((3 : Nat) : Int)) = 5 := by decide
   have hn : ((basL n).take (3 + 1)).length = 4 := rfl
   have HE := Lib.hid (show (basL n).take (3 + 1 + 1) = (basL n).take (3 + 1) ++ [ltB n 5] from rfl)
   have hb0 := bit_and n 5 HN.out
   have hb : (bits BinOp.and IntKind.i64 ((n : Int) / 32) 1 == 1) = bt n 5 := by
    rw [<- hb0]
    simp
   clear hb0
   generalize hL : (basL n).take (3 + 1) = L at *
   clear hL
   rw [he]
   clear he
   obtain ⟨bb, hbb⟩ : ∃ bb, bt n 5 = bb := ⟨_, rfl⟩
   rw [hbb] at hb
   have HB := Lib.hid hbb
   clear hbb
   cases bb with
   | false =>
     go_wp2_with (at_builtin; go_loud (refine wpl_append rfl (.tmp 23) (.tmp 25) rfl tU8 (HJ.out.own.keep ((Keeps.refl NoB wr).alloc _) (fun _ _ h => h)) (own_lit (E := encU8) (e := 5) (w := wr) (S := fun _ => True) [45] #[.int .u8 45] rfl 1 rfl trivial (by decide)).sl rfl rfl (by have := HJ.out.loM; have := HJ.out.loV; simp; omega) (by simp [maxLen]; omega) (by simp; omega) ?_))
     intro v' w2 ho2 hk2 hf2
     have ht2 := (HJ.out.on ((Keeps.refl NoB wr).alloc (.cells #[.int .u8 45] 5))).grows ho2 hk2
     obtain ⟨p', c', hv', _⟩ := ho2.sl
     rw [show (L ++ [(45 : UInt8)]).length = 5 by simp [hn]] at hv'
     subst hv'
     have HT2 := Lib.hid ht2
     have b2 : V < w2.heap.size := by have := hk2.size; simp at this; omega
     have hvb := (HJ.out.vb.on ((Keeps.refl NoB wr).alloc (.cells #[.int .u8 45] 5))).keep hk2 (fun hg => (HJ.out.own.2 V hg).2.2 rfl)
     have bf2 := hvb.fz 0
     have c2 := hvb.cell 0 _ rfl
     clear hvb
     clear ht2 ho2 hk2 hf2
     go_wp2_with fail
     go_roundw
     case rel => exact ⟨3 + 1, _, by decide, rfl, by rw [HE.out, show ltB n 5 = 45 by have h1 := HB.out; simp [ltB, rwx, h1]]; exact HT2.out⟩
     case measure => simp [intOf]
   | true =>
     go_wp2_with (at_builtin; go_loud (refine wpl_append rfl (.tmp 23) (.tmp 25) rfl tU8 (HJ.out.own.keep ((Keeps.refl NoB wr).alloc _) (fun _ _ h => h)) (own_lit (E := encU8) (e := 5) (w := wr) (S := fun _ => True) [114] #[.int .u8 114] rfl 1 rfl trivial (by decide)).sl rfl rfl (by have := HJ.out.loM; have := HJ.out.loV; simp; omega) (by simp [maxLen]; omega) (by simp; omega) ?_))
     intro v' w2 ho2 hk2 hf2
     have ht2 := (HJ.out.on ((Keeps.refl NoB wr).alloc (.cells #[.int .u8 114] 5))).grows ho2 hk2
     obtain ⟨p', c', hv', _⟩ := ho2.sl
     rw [show (L ++ [(114 : UInt8)]).length = 5 by simp [hn]] at hv'
     subst hv'
     have HT2 := Lib.hid ht2
     have b2 : V < w2.heap.size := by have := hk2.size; simp at this; omega
     have hvb := (HJ.out.vb.on ((Keeps.refl NoB wr).alloc (.cells #[.int .u8 114] 5))).keep hk2 (fun hg => (HJ.out.own.2 V hg).2.2 rfl)
     have bf2 := hvb.fz 0
     have c2 := hvb.cell 0 _ rfl
     clear hvb
     clear ht2 ho2 hk2 hf2
     go_wp2_with fail
     go_roundw
     case rel => exact ⟨3 + 1, _, by decide, rfl, by rw [HE.out, show ltB n 5 = 114 by have h1 := HB.out; simp [ltB, rwx, h1]]; exact HT2.out⟩
     case measure => simp [intOf]
  ·have he : (8 - ((2 : Nat) : Int)) = 6 := by decide
   have hn : ((basL n).take (2 + 1)).length = 3 := rfl
   have HE := Lib.hid (show (basL n).take (2 + 1 + 1) = (basL n).take (2 + 1) ++ [ltB n 6] from rfl)
   have hb0 := bit_and n 6 HN.out
   have hb : (bits BinOp.and IntKind.i64 ((n : Int) / 64) 1 == 1) = bt n 6 := by
    rw [<- hb0]
    simp
   clear hb0
   generalize hL : (basL n).take (2 + 1) = L at *
   clear hL
   rw [he]
   clear he
   obtain ⟨bb, hbb⟩ : ∃ bb, bt n 6 = bb := ⟨_, rfl⟩
   rw [hbb] at hb
   have HB := Lib.hid hbb
   clear hbb
   cases bb with
   | false =>
     go_wp2_with (at_builtin; go_loud (refine wpl_append rfl (.tmp 23) (.tmp 25) rfl tU8 (HJ.out.own.keep ((Keeps.refl NoB wr).alloc _) (fun _ _ h => h)) (own_lit (E := encU8) (e := 5) (w := wr) (S := fun _ => True) [45] #[.int .u8 45] rfl 1 rfl trivial (by decide)).sl rfl rfl (by have := HJ.out.loM; have := HJ.out.loV; simp; omega) (by simp [maxLen]; omega) (by simp; omega) ?_))
     intro v' w2 ho2 hk2 hf2
     have ht2 := (HJ.out.on ((Keeps.refl NoB wr).alloc (.cells #[.int .u8 45] 5))).grows ho2 hk2
     obtain ⟨p', c', hv', _⟩ := ho2.sl
     rw [show (L ++ [(45 : UInt8)]).length = 4 by simp [hn]] at hv'
     subst hv'
     have HT2 := Lib.hid ht2
     have b2 : V < w2.heap.size := by have := hk2.size; simp at this; omega
     have hvb := (HJ.out.vb.on ((Keeps.refl NoB wr).alloc (.cells #[.int .u8 45] 5))).keep hk2 (fun hg => (HJ.out.own.2 V hg).2.2 rfl)
     have bf2 := hvb.fz 0
     have c2 := hvb.cell 0 _ rfl
     clear hvb
     clear ht2 ho2 hk2 hf2
     go_wp2_with fail
     go_roundw
     case rel => exact ⟨2 + 1, _, by decide, rfl, by rw [HE.out, show ltB n 6 = 45 by have h1 := HB.out; simp [ltB, rwx, h1]]; exact HT2.out⟩
     case measure => simp [intOf]
   | true =>
     go_wp2_with (at_builtin; go_loud (refine wpl_append rfl (.tmp 23) (.tmp 25) rfl tU8 (HJ.out.own.keep ((Keeps.refl NoB wr).alloc _) (fun _ _ h => h)) (own_lit (E := encU8) (e := 5) (w := wr) (S := fun _ => True) [120] #[.int .u8 120] rfl 1 rfl trivial (by decide)).sl rfl rfl (by have := HJ.out.loM; have := HJ.out.loV; simp; omega) (by simp [maxLen]; omega) (by simp; omega) ?_))
     intro v' w2 ho2 hk2 hf2
     have ht2 := (HJ.out.on ((Keeps.refl NoB wr).alloc (.cells #[.int .u8 120] 5))).grows ho2 hk2
     obtain ⟨p', c', hv', _⟩ := ho2.sl
     rw [show (L ++ [(120 : UInt8)]).length = 4 by simp [hn]] at hv'
     subst hv'
     have HT2 := Lib.hid ht2
     have b2 : V < w2.heap.size := by have := hk2.size; simp at this; omega
     have hvb := (HJ.out.vb.on ((Keeps.refl NoB wr).alloc (.cells #[.int .u8 120] 5))).keep hk2 (fun hg => (HJ.out.own.2 V hg).2.2 rfl)
     have bf2 := hvb.fz 0
     have c2 := hvb.cell 0 _ rfl
     clear hvb
     clear ht2 ho2 hk2 hf2
     go_wp2_with fail
     go_roundw
     case rel => exact ⟨2 + 1, _, by decide, rfl, by rw [HE.out, show ltB n 6 = 120 by have h1 := HB.out; simp [ltB, rwx, h1]]; exact HT2.out⟩
     case measure => simp [intOf]
  ·have he : (8 - ((1 : Nat) : Int)) = 7 := by decide
   have hn : ((basL n).take (1 + 1)).length = 2 := rfl
   have HE := Lib.hid (show (basL n).take (1 + 1 + 1) = (basL n).take (1 + 1) ++ [ltB n 7] from rfl)
   have hb0 := bit_and n 7 HN.out
   have hb : (bits BinOp.and IntKind.i64 ((n : Int) / 128) 1 == 1) = bt n 7 := by
    rw [<- hb0]
    simp
   clear hb0
   generalize hL : (basL n).take (1 + 1) = L at *
   clear hL
   rw [he]
   clear he
   obtain ⟨bb, hbb⟩ : ∃ bb, bt n 7 = bb := ⟨_, rfl⟩
   rw [hbb] at hb
   have HB := Lib.hid hbb
   clear hbb
   cases bb with
   | false =>
     go_wp2_with (at_builtin; go_loud (refine wpl_append rfl (.tmp 23) (.tmp 25) rfl tU8 (HJ.out.own.keep ((Keeps.refl NoB wr).alloc _) (fun _ _ h => h)) (own_lit (E := encU8) (e := 5) (w := wr) (S := fun _ => True) [45] #[.int .u8 45] rfl 1 rfl trivial (by decide)).sl rfl rfl (by have := HJ.out.loM; have := HJ.out.loV; simp; omega) (by simp [maxLen]; omega) (by simp; omega) ?_))
     intro v' w2 ho2 hk2 hf2
     have ht2 := (HJ.out.on ((Keeps.refl NoB wr).alloc (.cells #[.int .u8 45] 5))).grows ho2 hk2
     obtain ⟨p', c', hv', _⟩ := ho2.sl
     rw [show (L ++ [(45 : UInt8)]).length = 3 by simp [hn]] at hv'
     subst hv'
     have HT2 := Lib.hid ht2
     have b2 : V < w2.heap.size := by have := hk2.size; simp at this; omega
     have hvb := (HJ.out.vb.on ((Keeps.refl NoB wr).alloc (.cells #[.int .u8 45] 5))).keep hk2 (fun hg => (HJ.out.own.2 V hg).2.2 rfl)
     have bf2 := hvb.fz 0
     have c2 := hvb.cell 0 _ rfl
     clear hvb
     clear ht2 ho2 hk2 hf2
     go_wp2_with fail
     go_roundw
     case rel => exact ⟨1 + 1, _, by decide, rfl, by rw [HE.out, show ltB n 7 = 45 by have h1 := HB.out; simp [ltB, rwx, h1]]; exact HT2.out⟩
     case measure => simp [intOf]
   | true =>
     go_wp2_with (at_builtin; go_loud (refine wpl_append rfl (.tmp 23) (.tmp 25) rfl tU8 (HJ.out.own.keep ((Keeps.refl NoB wr).alloc _) (fun _ _ h => h)) (own_lit (E := encU8) (e := 5) (w := wr) (S := fun _ => True) [119] #[.int .u8 119] rfl 1 rfl trivial (by decide)).sl rfl rfl (by have := HJ.out.loM; have := HJ.out.loV; simp; omega) (by simp [maxLen]; omega) (by simp; omega) ?_))
     intro v' w2 ho2 hk2 hf2
     have ht2 := (HJ.out.on ((Keeps.refl NoB wr).alloc (.cells #[.int .u8 119] 5))).grows ho2 hk2
     obtain ⟨p', c', hv', _⟩ := ho2.sl
     rw [show (L ++ [(119 : UInt8)]).length = 3 by simp [hn]] at hv'
     subst hv'
     have HT2 := Lib.hid ht2
     have b2 : V < w2.heap.size := by have := hk2.size; simp at this; omega
     have hvb := (HJ.out.vb.on ((Keeps.refl NoB wr).alloc (.cells #[.int .u8 119] 5))).keep hk2 (fun hg => (HJ.out.own.2 V hg).2.2 rfl)
     have bf2 := hvb.fz 0
     have c2 := hvb.cell 0 _ rfl
     clear hvb
     clear ht2 ho2 hk2 hf2
     go_wp2_with fail
     go_roundw
     case rel => exact ⟨1 + 1, _, by decide, rfl, by rw [HE.out, show ltB n 7 = 119 by have h1 := HB.out; simp [ltB, rwx, h1]]; exact HT2.out⟩
     case measure => simp [intOf]
  ·have he : (8 - ((0 : Nat) : Int)) = 8 := by decide
   have hn : ((basL n).take (0 + 1)).length = 1 := rfl
   have HE := Lib.hid (show (basL n).take (0 + 1 + 1) = (basL n).take (0 + 1) ++ [ltB n 8] from rfl)
   have hb0 := bit_and n 8 HN.out
   have hb : (bits BinOp.and IntKind.i64 ((n : Int) / 256) 1 == 1) = bt n 8 := by
    rw [<- hb0]
    simp
   clear hb0
   generalize hL : (basL n).take (0 + 1) = L at *
   clear hL
   rw [he]
   clear he
   obtain ⟨bb, hbb⟩ : ∃ bb, bt n 8 = bb := ⟨_, rfl⟩
   rw [hbb] at hb
   have HB := Lib.hid hbb
   clear hbb
   cases bb with
   | false =>
     go_wp2_with (at_builtin; go_loud (refine wpl_append rfl (.tmp 23) (.tmp 25) rfl tU8 (HJ.out.own.keep ((Keeps.refl NoB wr).alloc _) (fun _ _ h => h)) (own_lit (E := encU8) (e := 5) (w := wr) (S := fun _ => True) [45] #[.int .u8 45] rfl 1 rfl trivial (by decide)).sl rfl rfl (by have := HJ.out.loM; have := HJ.out.loV; simp; omega) (by simp [maxLen]; omega) (by simp; omega) ?_))
     intro v' w2 ho2 hk2 hf2
     have ht2 := (HJ.out.on ((Keeps.refl NoB wr).alloc (.cells #[.int .u8 45] 5))).grows ho2 hk2
     obtain ⟨p', c', hv', _⟩ := ho2.sl
     rw [show (L ++ [(45 : UInt8)]).length = 2 by simp [hn]] at hv'
     subst hv'
     have HT2 := Lib.hid ht2
     have b2 : V < w2.heap.size := by have := hk2.size; simp at this; omega
     have hvb := (HJ.out.vb.on ((Keeps.refl NoB wr).alloc (.cells #[.int .u8 45] 5))).keep hk2 (fun hg => (HJ.out.own.2 V hg).2.2 rfl)
     have bf2 := hvb.fz 0
     have c2 := hvb.cell 0 _ rfl
     clear hvb
     clear ht2 ho2 hk2 hf2
     go_wp2_with fail
     go_roundw
     case rel => exact ⟨0 + 1, _, by decide, rfl, by rw [HE.out, show ltB n 8 = 45 by have h1 := HB.out; simp [ltB, rwx, h1]]; exact HT2.out⟩
     case measure => simp [intOf]
   | true =>
     go_wp2_with (at_builtin; go_loud (refine wpl_append rfl (.tmp 23) (.tmp 25) rfl tU8 (HJ.out.own.keep ((Keeps.refl NoB wr).alloc _) (fun _ _ h => h)) (own_lit (E := encU8) (e := 5) (w := wr) (S := fun _ => True) [114] #[.int .u8 114] rfl 1 rfl trivial (by decide)).sl rfl rfl (by have := HJ.out.loM; have := HJ.out.loV; simp; omega) (by simp [maxLen]; omega) (by simp; omega) ?_))
     intro v' w2 ho2 hk2 hf2
     have ht2 := (HJ.out.on ((Keeps.refl NoB wr).alloc (.cells #[.int .u8 114] 5))).grows ho2 hk2
     obtain ⟨p', c', hv', _⟩ := ho2.sl
     rw [show (L ++ [(114 : UInt8)]).length = 2 by simp [hn]] at hv'
     subst hv'
     have HT2 := Lib.hid ht2
     have b2 : V < w2.heap.size := by have := hk2.size; simp at this; omega
     have hvb := (HJ.out.vb.on ((Keeps.refl NoB wr).alloc (.cells #[.int .u8 114] 5))).keep hk2 (fun hg => (HJ.out.own.2 V hg).2.2 rfl)
     have bf2 := hvb.fz 0
     have c2 := hvb.cell 0 _ rfl
     clear hvb
     clear ht2 ho2 hk2 hf2
     go_wp2_with fail
     go_roundw
     case rel => exact ⟨0 + 1, _, by decide, rfl, by rw [HE.out, show ltB n 8 = 114 by have h1 := HB.out; simp [ltB, rwx, h1]]; exact HT2.out⟩
     case measure => simp [intOf]
end Go.Proofs.YtimidmogcbapnaaGreatDoor
