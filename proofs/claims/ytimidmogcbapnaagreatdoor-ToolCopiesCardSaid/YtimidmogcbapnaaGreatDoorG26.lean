/-
  Layer 23: ln -s. (Printed by gentool.py.)
-/
import Derived.Test.YtimidmogcbapnaaGreatDoorG25
import Derived.Test.YtimidmogcbapnaaGreatDoorG17
import Derived.Test.YtimidmogcbapnaaGreatDoorG23

set_option linter.unusedSimpArgs false
set_option linter.unusedVariables false
set_option maxRecDepth 100000
set_option maxHeartbeats 8000000
namespace Go.Proofs.YtimidmogcbapnaaGreatDoor
open Go Go.RowKit
section
variable {W w : World} {Q : Nat -> Prop} {B F a : Nat} {d d' : Nds} {room calls fail at' mask st : Int} {name out err : ByteArray} {iv : Value}
theorem pair_lns {S : Nat -> Prop} {p : Option Addr} {c : Nat} {x y : ByteArray} (h : TW W Q w B F a d room calls fail (wkC ⟨#[108, 110]⟩ F at' mask iv out err st)) (hA : SlAt encStr S w p c [⟨#[45, 115]⟩, x, y]) (hf : noFlag x = true) (hx : x.size <= 1000) (hy : y.size <= 1000) 
 {n im il ih iz ik : Int} (hn : (thrR d at' y true).1.node = n) (hV : statV d (thrR d at' y true) = .agg #[.int .i64 ik, .int .i64 im, .int .i64 il, .int .i64 ih, .int .i64 iz]) (hE : statE d (thrR d at' y true) = 12)
 {n2 km kl kh kz kk : Int} (hn2 : (thrR d at' y false).1.node = n2) (hV2 : statV d (thrR d at' y false) = .agg #[.int .i64 kk, .int .i64 km, .int .i64 kl, .int .i64 kh, .int .i64 kz]) (hE2 : statE d (thrR d at' y false) = 12)
 (hb : mass d + 3 <= 2147483648) (hc0 : 0 <= calls) (hc1 : calls <= 4611686018427387904) (hd2 : DInv d -> NoGarb d -> orFail calls fail d (symR d room at' x y) = (d', 0)) :
 Calls Tryz.prog 34 #[.pointer (some ⟨B, 0, none⟩), .slice p 3 c] w fun e w' => e = .returned (.tuple #[]) ∧ TW W Q w' B F a d' room (calls + 1) fail (wkC ⟨#[108, 110]⟩ F at' mask iv out err st) ∧ Keeps (Lw W Q) w w' := by
 have HT := Lib.hid h
 have HV := Lib.hid hV
 have HE := Lib.hid hE
 have hsz : y.size <= 4294967280 := by omega
 have HSz := Lib.hid hsz
 have HF := Lib.hid (flags_one hA ⟨#[115, 102]⟩ (by decide) (by decide) (by decide) (by decide) (by decide) (fun z hz => by cases hz; exact hf))
 rw [show (⟨#[45, 115]⟩ : ByteArray).extract 1 (ByteArray.size ⟨#[45, 115]⟩) = ⟨#[115]⟩ by decide] at HF
 simp only [List.length_cons, List.length_nil, Nat.zero_add] at HF
 have hsub := hA.sub 1 3 (by omega) (by simp)
 rw [show ([(⟨#[45, 115]⟩ : ByteArray), x, y].take 3).drop 1 = [x, y] from rfl] at hsub
 obtain ⟨g, o, hvp, _, hgl, t0⟩ := hsub.str (i := 0) (x := x) rfl
 obtain ⟨g1, o1, e1, _, _, t1⟩ := hsub.str (i := 1) (x := y) rfl
 rw [show encStr.k = 1 from rfl] at hvp e1
 rw [hvp] at HF e1
 cases e1
 have hcp := hsub.cap
 have hmx := hsub.max
 unfold maxLen at hmx
 simp only [List.length_cons, List.length_nil, Nat.zero_add] at hcp
 have HC0 : Hid (w.cell? ⟨g, o, none⟩ = some (.string x)) := t0
 have HC1 : Hid (w.cell? ⟨g, o + 1, none⟩ = some (.string y)) := t1
 have HI1 := Lib.hid (fun wx => ib_any ⟨#[115]⟩ 102 wx)
 rw [show bIdx (⟨#[115]⟩ : ByteArray) ((102 : Int)).toNat.toUInt8 = -1 by decide] at HI1
 have HIs := Lib.hid (fun wx => ib_any ⟨#[115]⟩ 115 wx)
 rw [show bIdx (⟨#[115]⟩ : ByteArray) ((115 : Int)).toNat.toUInt8 = 0 by decide] at HIs
 have HV2 := Lib.hid hV2
 have HE2 := Lib.hid hE2
 have HM : Hid (∀ w1 : World, TW W Q w1 B F a d room calls fail (wkC ⟨#[108, 110]⟩ F at' mask iv out err st) -> Calls Tryz.prog 75 #[.pointer (some ⟨F, 0, none⟩), .agg #[.int .i64 at', .int .i64 mask], .string x, .string y] w1 fun e w' => e = .returned (.int .i64 0) ∧ TW W Q w' B F a d' room (calls + 1) fail (wkC ⟨#[108, 110]⟩ F at' mask iv out err st) ∧ Keeps (Gd W Q B) w1 w') := Lib.hid fun w1 k => by
  have := k.call (fun N hN => sym_any hN hc0 hc1 hb at' mask x y (by omega) (by omega))
  rw [hd2 k.fx.inv k.fx.clean] at this
  exact this
 have HWr := Lib.hid (fun w1 : World => wrong_ok (B := B) 1 w1)
 generalize c - 1 = cc at *
 clear h hA hsub hvp t0 t1 hV hE hf hV2 hE2  hd2 hc0 hc1 hb hx hy hsz
 have n0 := HT.out.bx.cell 0 _ rfl
 have nl := HT.out.bx.lt
 go_enter Tryz.func34, Tryz.ntmps34
 go_upto_region 9 with (go_at_call 65; go_loud (refine HF.out.mono ?_); rintro e w1 ⟨rfl, hk1⟩)
 have c0 : w1.cell? ⟨g, o, none⟩ = some (.string x) := (hk1.cell (p := ⟨g, o, none⟩) (lt_of_cell HC0.out) (fun h => h)).trans HC0.out
 have c1 : w1.cell? ⟨g, o + 1, none⟩ = some (.string y) := (hk1.cell (p := ⟨g, o + 1, none⟩) (lt_of_cell HC1.out) (fun h => h)).trans HC1.out
 have HK1 := Lib.hid hk1
 clear hk1
 clear HF n0 nl
 go_quiet (fail)
 generalize hwq : World.drewN w1 _ = wq
 have HTq := Lib.hid (HT.out.on (HK1.out.trans (show Keeps NoB w1 wq by rw [<- hwq]; exact (Keeps.refl _ _).drewN _)))
 have HKq := Lib.hid (HK1.out.trans (show Keeps NoB w1 wq by rw [<- hwq]; exact (Keeps.refl _ _).drewN _))
 clear c0 c1 hwq
 have HSt := Lib.hid (fun (w1 : World) (k : Keeps NoB wq w1) => (HTq.out.fx.on k).asks fun N hN => stat_any hN at' mask y true HSz.out)
 rw [HV.out, HE.out, hn] at HSt
 clear hn
 have f0 := HTq.out.bx.cell 1 _ rfl
 have b0 := HTq.out.bx.cell 2 _ rfl
 have b1 := HTq.out.bx.cell 3 _ rfl
 have fl := HTq.out.bx.lt
 go_upto_region 10 with fail
 go_cut [9, 10, 11] from 46 to 59 (fun x y z wx => ∃ G : Nat, ∃ wn : World, wn = wx ∧ wq.heap.size <= G ∧ x = .int .i64 n ∧ y = .pointer (some ⟨G, 0, none⟩) ∧ z = .int .i64 12 ∧ Bx wx G [.int .i64 ik, .int .i64 im, .int .i64 il, .int .i64 ih, .int .i64 iz] ∧ Keeps NoB wq wx)
 case first =>
  have kr := Keeps.refl NoB wq
  have krd := kr.drew
  have d0 := (HTq.out.on krd).bx.cell 1 _ rfl
  have d1 := (HTq.out.on krd).bx.cell 2 _ rfl
  have d2 := (HTq.out.on krd).bx.cell 3 _ rfl
  go_region_held3 (fun wz => wz.cell? ⟨B, 1, none⟩ = some (.pointer (some ⟨F, 0, none⟩)) ∧ wz.cell? ⟨B, 2, none⟩ = some (.int .i64 at') ∧ wz.cell? ⟨B, 3, none⟩ = some (.int .i64 mask) ∧ Keeps NoB wq wz) (refine ⟨?_, ?_, ?_, ?_⟩ <;> first | with_reducible assumption | (with_reducible refine (HTq.out.on ?_).bx.cell 1 _ rfl; (repeat (first | with_reducible assumption | (with_reducible exact Keeps.refl _ _) | (with_reducible refine Keeps.drew ?_) | (with_reducible refine Keeps.drewN ?_ _) | (with_reducible refine Keeps.alloc ?_ _) | (with_reducible refine Keeps.setCell ?_ (by first | exact Or.inl rfl | exact Or.inr (Nat.le_refl _) | exact Or.inr (by first | (simp; done) | (simp; omega))) _))); done) | (with_reducible refine (HTq.out.on ?_).bx.cell 2 _ rfl; (repeat (first | with_reducible assumption | (with_reducible exact Keeps.refl _ _) | (with_reducible refine Keeps.drew ?_) | (with_reducible refine Keeps.drewN ?_ _) | (with_reducible refine Keeps.alloc ?_ _) | (with_reducible refine Keeps.setCell ?_ (by first | exact Or.inl rfl | exact Or.inr (Nat.le_refl _) | exact Or.inr (by first | (simp; done) | (simp; omega))) _))); done) | (with_reducible refine (HTq.out.on ?_).bx.cell 3 _ rfl; (repeat (first | with_reducible assumption | (with_reducible exact Keeps.refl _ _) | (with_reducible refine Keeps.drew ?_) | (with_reducible refine Keeps.drewN ?_ _) | (with_reducible refine Keeps.alloc ?_ _) | (with_reducible refine Keeps.setCell ?_ (by first | exact Or.inl rfl | exact Or.inr (Nat.le_refl _) | exact Or.inr (by first | (simp; done) | (simp; omega))) _))); done) | ((repeat (first | with_reducible assumption | (with_reducible exact Keeps.refl _ _) | (with_reducible refine Keeps.drew ?_) | (with_reducible refine Keeps.drewN ?_ _) | (with_reducible refine Keeps.alloc ?_ _) | (with_reducible refine Keeps.setCell ?_ (by first | exact Or.inl rfl | exact Or.inr (Nat.le_refl _) | exact Or.inr (by first | (simp; done) | (simp; omega))) _))); done))
   (first | (go_at_call 12; refine (HSt.out _ (by (repeat (first | with_reducible assumption | (with_reducible exact Keeps.refl _ _) | (with_reducible refine Keeps.drew ?_) | (with_reducible refine Keeps.drewN ?_ _) | (with_reducible refine Keeps.alloc ?_ _) | (with_reducible refine Keeps.setCell ?_ (by first | exact Or.inl rfl | exact Or.inr (Nat.le_refl _) | exact Or.inr (by first | (simp; done) | (simp; omega))) _))))).mono ?_; rintro e w2 ⟨rfl, hk2⟩; have zky : Keeps NoB wq w2 := Keeps.trans (by (repeat (first | with_reducible assumption | (with_reducible exact Keeps.refl _ _) | (with_reducible refine Keeps.drew ?_) | (with_reducible refine Keeps.drewN ?_ _) | (with_reducible refine Keeps.alloc ?_ _) | (with_reducible refine Keeps.setCell ?_ (by first | exact Or.inl rfl | exact Or.inr (Nat.le_refl _) | exact Or.inr (by first | (simp; done) | (simp; omega))) _)))) hk2; have zs := zky.size; have z0 := (HTq.out.on zky).bx.cell 1 _ rfl; have z1 := (HTq.out.on zky).bx.cell 2 _ rfl; have z2 := (HTq.out.on zky).bx.cell 3 _ rfl; (try (have yb := Bx.newD hk2; have y0 := yb.cell 0 _ rfl; have y1 := yb.cell 1 _ rfl; have y2 := yb.cell 2 _ rfl; have y3 := yb.cell 3 _ rfl; have y4 := yb.cell 4 _ rfl; have yf := yb.fz))))
  all_goals (go_wp2_with fail; go_meet; refine ⟨_, _, rfl, ?_, rfl, rfl, rfl, ?_, ?_⟩)
  all_goals first
   | exact Nat.le_refl _
   | exact zs
   | (with_reducible exact Bx.new (Keeps.refl NoB _))
   | (exact ((((yb.put 0 _).put 1 _).put 2 _).put 3 _).put 4 _)
   | ((repeat (first | with_reducible assumption | (with_reducible exact Keeps.refl _ _) | (with_reducible refine Keeps.drew ?_) | (with_reducible refine Keeps.drewN ?_ _) | (with_reducible refine Keeps.alloc ?_ _) | (with_reducible refine Keeps.setCell ?_ (by first | exact Or.inl rfl | exact Or.inr (Nat.le_refl _) | exact Or.inr (by first | (simp; done) | (simp; omega))) _))); done)
   | skip
 case rest =>
  obtain ⟨HIB, w5, rfl, hG, rfl, rfl, rfl, HI, hk⟩ := hcut
  replace HI := Lib.hid HI
  have HK := Lib.hid hk
  have HG := Lib.hid hG
  replace HTq := Lib.hid (HTq.out.on hk)
  clear f0 b0 b1 fl HSt hG hk
  have i0 := HI.out.cell 0 _ rfl
  have n0 := HTq.out.bx.cell 0 _ rfl
  have nl := HTq.out.bx.lt
  go_upto_region 15 with (go_at_call 42; go_loud (refine (HI1.out _).mono ?_); rintro e w3 ⟨rfl, rfl⟩)
  clear i0 n0 nl
  have HSt := Lib.hid (fun (w1 : World) (k : Keeps NoB w5 w1) => (HTq.out.fx.on k).asks fun N hN => stat_any hN at' mask y false HSz.out)
  rw [HV2.out, HE2.out, hn2] at HSt
  clear hn2
  have f0 := HTq.out.bx.cell 1 _ rfl
  have b0 := HTq.out.bx.cell 2 _ rfl
  have b1 := HTq.out.bx.cell 3 _ rfl
  have fl := HTq.out.bx.lt
  go_cut [13, 14, 15] from 78 to 91 (fun x y z wx => ∃ G : Nat, ∃ wn : World, wn = wx ∧ w5.heap.size <= G ∧ x = .int .i64 n2 ∧ y = .pointer (some ⟨G, 0, none⟩) ∧ z = .int .i64 12 ∧ Bx wx G [.int .i64 kk, .int .i64 km, .int .i64 kl, .int .i64 kh, .int .i64 kz] ∧ Keeps NoB w5 wx)
  case first =>
   have kr := Keeps.refl NoB w5
   have krd := kr.drew
   have d0 := (HTq.out.on krd).bx.cell 1 _ rfl
   have d1 := (HTq.out.on krd).bx.cell 2 _ rfl
   have d2 := (HTq.out.on krd).bx.cell 3 _ rfl
   go_region_held3 (fun wz => wz.cell? ⟨B, 1, none⟩ = some (.pointer (some ⟨F, 0, none⟩)) ∧ wz.cell? ⟨B, 2, none⟩ = some (.int .i64 at') ∧ wz.cell? ⟨B, 3, none⟩ = some (.int .i64 mask) ∧ Keeps NoB w5 wz) (refine ⟨?_, ?_, ?_, ?_⟩ <;> first | with_reducible assumption | (with_reducible refine (HTq.out.on ?_).bx.cell 1 _ rfl; (repeat (first | with_reducible assumption | (with_reducible exact Keeps.refl _ _) | (with_reducible refine Keeps.drew ?_) | (with_reducible refine Keeps.drewN ?_ _) | (with_reducible refine Keeps.alloc ?_ _) | (with_reducible refine Keeps.setCell ?_ (by first | exact Or.inl rfl | exact Or.inr (Nat.le_refl _) | exact Or.inr (by first | (simp; done) | (simp; omega))) _))); done) | (with_reducible refine (HTq.out.on ?_).bx.cell 2 _ rfl; (repeat (first | with_reducible assumption | (with_reducible exact Keeps.refl _ _) | (with_reducible refine Keeps.drew ?_) | (with_reducible refine Keeps.drewN ?_ _) | (with_reducible refine Keeps.alloc ?_ _) | (with_reducible refine Keeps.setCell ?_ (by first | exact Or.inl rfl | exact Or.inr (Nat.le_refl _) | exact Or.inr (by first | (simp; done) | (simp; omega))) _))); done) | (with_reducible refine (HTq.out.on ?_).bx.cell 3 _ rfl; (repeat (first | with_reducible assumption | (with_reducible exact Keeps.refl _ _) | (with_reducible refine Keeps.drew ?_) | (with_reducible refine Keeps.drewN ?_ _) | (with_reducible refine Keeps.alloc ?_ _) | (with_reducible refine Keeps.setCell ?_ (by first | exact Or.inl rfl | exact Or.inr (Nat.le_refl _) | exact Or.inr (by first | (simp; done) | (simp; omega))) _))); done) | ((repeat (first | with_reducible assumption | (with_reducible exact Keeps.refl _ _) | (with_reducible refine Keeps.drew ?_) | (with_reducible refine Keeps.drewN ?_ _) | (with_reducible refine Keeps.alloc ?_ _) | (with_reducible refine Keeps.setCell ?_ (by first | exact Or.inl rfl | exact Or.inr (Nat.le_refl _) | exact Or.inr (by first | (simp; done) | (simp; omega))) _))); done))
    (first | (go_at_call 12; refine (HSt.out _ (by (repeat (first | with_reducible assumption | (with_reducible exact Keeps.refl _ _) | (with_reducible refine Keeps.drew ?_) | (with_reducible refine Keeps.drewN ?_ _) | (with_reducible refine Keeps.alloc ?_ _) | (with_reducible refine Keeps.setCell ?_ (by first | exact Or.inl rfl | exact Or.inr (Nat.le_refl _) | exact Or.inr (by first | (simp; done) | (simp; omega))) _))))).mono ?_; rintro e w2 ⟨rfl, hk2⟩; have zky : Keeps NoB w5 w2 := Keeps.trans (by (repeat (first | with_reducible assumption | (with_reducible exact Keeps.refl _ _) | (with_reducible refine Keeps.drew ?_) | (with_reducible refine Keeps.drewN ?_ _) | (with_reducible refine Keeps.alloc ?_ _) | (with_reducible refine Keeps.setCell ?_ (by first | exact Or.inl rfl | exact Or.inr (Nat.le_refl _) | exact Or.inr (by first | (simp; done) | (simp; omega))) _)))) hk2; have zs := zky.size; have z0 := (HTq.out.on zky).bx.cell 1 _ rfl; have z1 := (HTq.out.on zky).bx.cell 2 _ rfl; have z2 := (HTq.out.on zky).bx.cell 3 _ rfl; (try (have yb := Bx.newD hk2; have y0 := yb.cell 0 _ rfl; have y1 := yb.cell 1 _ rfl; have y2 := yb.cell 2 _ rfl; have y3 := yb.cell 3 _ rfl; have y4 := yb.cell 4 _ rfl; have yf := yb.fz))))
   all_goals (go_wp2_with fail; go_meet; refine ⟨_, _, rfl, ?_, rfl, rfl, rfl, ?_, ?_⟩)
   all_goals first
    | exact Nat.le_refl _
    | exact zs
    | (with_reducible exact Bx.new (Keeps.refl NoB _))
    | (exact ((((yb.put 0 _).put 1 _).put 2 _).put 3 _).put 4 _)
    | ((repeat (first | with_reducible assumption | (with_reducible exact Keeps.refl _ _) | (with_reducible refine Keeps.drew ?_) | (with_reducible refine Keeps.drewN ?_ _) | (with_reducible refine Keeps.alloc ?_ _) | (with_reducible refine Keeps.setCell ?_ (by first | exact Or.inl rfl | exact Or.inr (Nat.le_refl _) | exact Or.inr (by first | (simp; done) | (simp; omega))) _))); done)
    | skip
  case rest =>
   obtain ⟨HIB2, wy, rfl, hG2, rfl, rfl, rfl, HI2, hk2⟩ := hcut
   replace HI2 := Lib.hid HI2
   have HK2 := Lib.hid hk2
   have HG2 := Lib.hid hG2
   replace HTq := Lib.hid (HTq.out.on hk2)
   clear f0 b0 b1 fl HSt hG2 hk2
   go_upto_region 19 with (go_at_call 42; go_loud (refine (HIs.out _).mono ?_); rintro e w3 ⟨rfl, rfl⟩)
   have f0 := HTq.out.bx.cell 1 _ rfl
   have b0 := HTq.out.bx.cell 2 _ rfl
   have b1 := HTq.out.bx.cell 3 _ rfl
   have fl := HTq.out.bx.lt
   have krd := (Keeps.refl NoB wy).drew
   have d0 := (HTq.out.on krd).bx.cell 1 _ rfl
   have d1 := (HTq.out.on krd).bx.cell 2 _ rfl
   have d2 := (HTq.out.on krd).bx.cell 3 _ rfl
   go_region_held3 (fun wz => wz.cell? ⟨B, 1, none⟩ = some (.pointer (some ⟨F, 0, none⟩)) ∧ wz.cell? ⟨B, 2, none⟩ = some (.int .i64 at') ∧ wz.cell? ⟨B, 3, none⟩ = some (.int .i64 mask)) (refine ⟨?_, ?_, ?_⟩ <;> first | with_reducible assumption)
    (first | (go_at_call 75; refine (HM.out _ (HTq.out.on (by (repeat (first | with_reducible assumption | (with_reducible exact Keeps.refl _ _) | (with_reducible refine Keeps.drew ?_) | (with_reducible refine Keeps.drewN ?_ _) | (with_reducible refine Keeps.alloc ?_ _) | (with_reducible refine Keeps.setCell ?_ (by first | exact Or.inl rfl | exact Or.inr (Nat.le_refl _) | exact Or.inr (by first | (simp; done) | (simp; omega))) _)))))).mono ?_; rintro e w6 ⟨rfl, ht6, hk6⟩; have hl6 : Keeps (Lw W Q) wy w6 := Keeps.trans (Keeps.of_none (by (repeat (first | with_reducible assumption | (with_reducible exact Keeps.refl _ _) | (with_reducible refine Keeps.drew ?_) | (with_reducible refine Keeps.drewN ?_ _) | (with_reducible refine Keeps.alloc ?_ _) | (with_reducible refine Keeps.setCell ?_ (by first | exact Or.inl rfl | exact Or.inr (Nat.le_refl _) | exact Or.inr (by first | (simp; done) | (simp; omega))) _))))) (gd_low hk6); have z0 := ht6.bx.cell 1 _ rfl; have z1 := ht6.bx.cell 2 _ rfl; have z2 := ht6.bx.cell 3 _ rfl) | (go_at_call 30; refine (HWr.out _).mono ?_; rintro e w7 ⟨rfl, rfl⟩))
   all_goals (go_wp2_with fail; go_end0; exact ⟨rfl, ht6, ((HKq.out.trans HK.out).trans HK2.out).of_none.trans hl6⟩)
end
section
variable {W : World} {Q : Nat -> Prop} {F a : Nat} {m : Int} {D : ByteArray}
theorem tc_copy1 {w1 : World} {B : Nat} {nm out err : ByteArray} {iv : Value} {st : Int} (ho : TcOk m D) (ht : TW W Q w1 B F a (cA m 0 D) 65536 3 (-1) (wkC nm F 1 0 iv out err st)) :
 Calls Tryz.prog 74 #[.pointer (some ⟨B, 0, none⟩), .string ⟨#[97]⟩, .string ⟨#[98]⟩] w1 fun e w' => e = .returned (.int .i64 0) ∧ TW W Q w' B F a (cAB m 0 0 D D) 65536 (3 + tcE D) (-1) (wkC nm F 1 0 iv out err st) ∧ Keeps (Lw W Q) w1 w' := by
 have hz := ho.z
 obtain ⟨i1, i2⟩ := tc_info2 (m := m) (D := D)
 obtain ⟨s1, s2, s3⟩ := tc_stat_b (m := m) (h := 1) (D := D) true
 rw [<- tc_done_b]
 by_cases hD : D = ⟨#[]⟩
 ·have he : tcE D = 1 := by unfold tcE; rw [if_pos hD]
  rw [he]
  have := copy_none ht (by decide) (by decide) (by decide) (by decide) mass_cA mass_cA1 (fun _ _ => tc_open2 ho.rd) i1 i2 ho.an s1 s3 s2 (read_all (m := m) (h := 1) rfl hz) (calls1 := 3 + 1) (by decide) (fun hI _ => tc_put_b hI ho.ok ho.fr hz (by decide)) hD
  subst hD
  exact this
 ·have he : tcE D = 1 + 1 := by unfold tcE; rw [if_neg hD]; rfl
  rw [he, <- Int.add_assoc]
  exact copy_full ht (by decide) (by decide) (by decide) (by decide) mass_cA mass_cA1 (fun _ _ => tc_open2 ho.rd) i1 i2 ho.an s1 s3 s2 (read_all (m := m) (h := 1) rfl hz) (calls1 := 3 + 1) (by decide) (fun hI _ => tc_put_b hI ho.ok ho.fr hz (by decide)) hD (by omega) (fun _ _ => tc_write_b hz (by decide))
theorem tc_copy2 {w1 : World} {B : Nat} {nm out err : ByteArray} {iv : Value} {st calls : Int} (hc0 : 0 <= calls) (hc1 : calls <= 1000) (ho : TcOk m D) (ht : TW W Q w1 B F a (cE m 0 D) 65536 calls (-1) (wkC nm F 1 0 iv out err st)) :
 Calls Tryz.prog 74 #[.pointer (some ⟨B, 0, none⟩), .string ⟨#[108]⟩, .string ⟨#[101, 47, 108]⟩] w1 fun e w' => e = .returned (.int .i64 0) ∧ TW W Q w' B F a (cF m 0 0 D D) 65536 (calls + tcE D) (-1) (wkC nm F 1 0 iv out err st) ∧ Keeps (Lw W Q) w1 w' := by
 have hz := ho.z
 obtain ⟨i1, i2⟩ := tc_info3 (m := m) (D := D)
 obtain ⟨s1, s2, s3⟩ := tc_stat_el (m := m) (D := D) true
 have hN : openN calls 14 = calls + 1 := by unfold openN; rw [if_pos (by decide)]
 rw [<- tc_done_el]
 by_cases hD : D = ⟨#[]⟩
 ·have he : tcE D = 1 := by unfold tcE; rw [if_pos hD]
  rw [he]
  have := copy_none ht (by decide) (by decide) hc0 (by omega) mass_cE0 mass_cE1 (fun _ _ => tc_open3 ho.rd) i1 i2 ho.an s1 s3 s2 (read_all (m := m) (h := 1) rfl hz) hN (fun hI _ => tc_put_el hI ho.ok ho.fr hz (by omega)) hD
  subst hD
  exact this
 ·have he : tcE D = 1 + 1 := by unfold tcE; rw [if_neg hD]; rfl
  rw [he, <- Int.add_assoc]
  exact copy_full ht (by decide) (by decide) hc0 (by omega) mass_cE0 mass_cE1 (fun _ _ => tc_open3 ho.rd) i1 i2 ho.an s1 s3 s2 (read_all (m := m) (h := 1) rfl hz) hN (fun hI _ => tc_put_el hI ho.ok ho.fr hz (by omega)) hD (by omega) (fun _ _ => tc_write_el hz (by omega))
theorem tc_step {k : Nat} {nm : ByteArray} {args : List ByteArray} (hl : tcRows[k]? = some (nm :: args)) (ho : TcOk m D) {w : World} (h : FSx W Q w F a (tcD m D k) 65536 (tcC D k) (-1)) {p : Option Addr} {c : Nat} {S : Nat -> Prop} (hA : SlAt encStr S w p c args) (bt' : TypeId) (bv : Value) :
 Calls Tryz.prog 11 #[.string nm, .slice p args.length c, .pointer (some ⟨F, 0, none⟩), .agg #[.int .i64 1, .int .i64 0], .iface bt' bv] w (FXo W Q w F a (tcD m D (k + 1)) 65536 (tcC D (k + 1)) (-1) (.agg #[.string ⟨#[]⟩, .string ⟨#[]⟩, .int .i64 0])) := by
 have hz := ho.z
 have he := tcE_bound D
 match k, hl with
 | 0, hl =>
   cases hl
   obtain ⟨s1, s2, s3⟩ := tc_stat_b (m := m) (h := 0) (D := D) true
   refine run_cp h fun Q' w1 B ht hk => ?_
   exact pair_cp ht (hA.keepN hk) (by decide) (by decide) (by decide) s1 s3 s2 (fun w2 h2 => tc_copy1 ho h2)
 | 1, hl =>
   cases hl
   obtain ⟨s1, s2, s3⟩ := tc_stat_c (m := m) (D := D)
   refine run_mv h fun Q' w1 B ht hk => ?_
   exact pair_mv ht (hA.keepN hk) (by decide) (by decide) (by decide) s1 s3 s2 (by show (6 : Nat) + 3 <= 2147483648; decide) (by show 0 <= 3 + tcE D; omega) (by show 3 + tcE D <= _; omega) (fun _ _ => tc_mv hz (by show ¬ 3 + tcE D = -1; omega))
 | 2, hl =>
   cases hl
   obtain ⟨s1, s2, s3⟩ := tc_stat_d (m := m) (D := D) true
   obtain ⟨r1, r2, r3⟩ := tc_stat_d (m := m) (D := D) false
   refine run_ln h fun Q' w1 B ht hk => ?_
   exact pair_ln ht (hA.keepN hk) (by decide) (by decide) (by decide) s1 s3 s2 r1 r3 r2 (by show (6 : Nat) + 3 <= 2147483648; decide) (by show 0 <= 3 + tcE D + 1; omega) (by show 3 + tcE D + 1 <= _; omega) (fun _ _ => tc_ln hz (by show ¬ 3 + tcE D + 1 = -1; omega))
 | 3, hl =>
   cases hl
   obtain ⟨s1, s2, s3⟩ := tc_stat_l (m := m) (D := D) true
   obtain ⟨r1, r2, r3⟩ := tc_stat_l (m := m) (D := D) false
   refine run_ln h fun Q' w1 B ht hk => ?_
   exact pair_lns ht (hA.keepN hk) (by decide) (by decide) (by decide) s1 s3 s2 r1 r3 r2 (by show (7 : Nat) + 3 <= 2147483648; decide) (by show 0 <= 3 + tcE D + 1 + 1; omega) (by show 3 + tcE D + 1 + 1 <= _; omega) (fun hI hc => tc_sym hI hc hz (by show ¬ 3 + tcE D + 1 + 1 = -1; omega))
 | 4, hl =>
   cases hl
   refine run_mkdir h fun Q' w1 B ht hk => ?_
   exact mkdir_one ht (hA.keepN hk) (by decide) (by decide) (by show 0 <= 3 + tcE D + 1 + 1 + 1; omega) (by show 3 + tcE D + 1 + 1 + 1 <= _; omega) (by show (9 : Nat) + 3 <= 2147483648; decide) (fun hI hc => tc_mkdir hI hc hz (by show ¬ 3 + tcE D + 1 + 1 + 1 = -1; omega))
 | 5, hl =>
   cases hl
   obtain ⟨s1, s2, s3⟩ := tc_stat_e (m := m) (D := D)
   refine run_cp h fun Q' w1 B ht hk => ?_
   exact pair_cpd ht (hA.keepN hk) (by decide) (by decide) (by decide) base_l s1 s3 s2 (fun w2 h2 => by rw [show joinB (⟨#[101]⟩ : ByteArray) ⟨#[108]⟩ = ⟨#[101, 47, 108]⟩ by decide]; exact tc_copy2 (by show 0 <= 3 + tcE D + 1 + 1 + 1 + 1; omega) (by show 3 + tcE D + 1 + 1 + 1 + 1 <= _; omega) ho h2)
 | k + 6, hl => cases hl
theorem tc_test {w : World} {calls : Int} (h : FSx W Q w F a (cF m 0 0 D D) 65536 calls (-1)) {p : Option Addr} {c : Nat} {S : Nat -> Prop} (hA : SlAt encStr S w p c [⟨#[45, 104]⟩, ⟨#[108]⟩]) (bt' : TypeId) (bv : Value) :
 Calls Tryz.prog 11 #[.string ⟨#[116, 101, 115, 116]⟩, .slice p 2 c, .pointer (some ⟨F, 0, none⟩), .agg #[.int .i64 1, .int .i64 0], .iface bt' bv] w (FXo W Q w F a (cF m 0 0 D D) 65536 calls (-1) (.agg #[.string ⟨#[]⟩, .string ⟨#[]⟩, .int .i64 0])) := by
 obtain ⟨s1, s2, s3⟩ := tc_link (m := m) (D := D)
 refine run_test h fun Q' w1 B ht hk => ?_
 exact test_two ht (hA.keepN hk) (by decide) fun w2 hk2 => one_h (ht.on hk2) (by decide) s1 s3 s2
end
theorem toolCopies_any (D : ByteArray) (x : Int) (W : World) : Calls Tryz.prog 3 #[.string D, .int .i64 x] W fun e w' => e = .returned (.bool true) ∧ Keeps NoB W w' := by
 have HA := Lib.hid anchor23_any
 have hc : 500 < D.size ∨ (D.size <= 500 ∧ x < 0) ∨ (D.size <= 500 ∧ ¬ x < 0 ∧ 511 < x) ∨ (D.size <= 500 ∧ ¬ x < 0 ∧ x <= 511) := by omega
 rcases hc with z | ⟨z, z2⟩ | ⟨z, z2, z3⟩ | ⟨hD, hx0, hx1⟩
 ·have q : (500 : Int) < D.size := by omega
  go_enter Tryz.func3, Tryz.ntmps3
  go_wp2_with (go_at_call 5; go_loud (refine (HA.out _).mono ?_); rintro e w1 ⟨rfl, hk1⟩)
  go_ret
  exact ⟨rfl, hk1⟩
 ·go_enter Tryz.func3, Tryz.ntmps3
  go_wp2_with (go_at_call 5; go_loud (refine (HA.out _).mono ?_); rintro e w1 ⟨rfl, hk1⟩)
  go_ret
  exact ⟨rfl, hk1⟩
 ·go_enter Tryz.func3, Tryz.ntmps3
  go_wp2_with (go_at_call 5; go_loud (refine (HA.out _).mono ?_); rintro e w1 ⟨rfl, hk1⟩)
  go_ret
  exact ⟨rfl, hk1⟩
 obtain ⟨m1, m2, m3, m4⟩ := tc_mode ⟨x.toNat, by omega⟩
 rw [show ((⟨x.toNat, by omega⟩ : Fin 512).val : Int) = x by show ((x.toNat : Nat) : Int) = x; omega] at m1 m2 m3 m4
 obtain ⟨m, hm⟩ : ∃ m, bits BinOp.or IntKind.i64 x 256 = m := ⟨_, rfl⟩
 rw [hm] at m1 m2 m3 m4
 have HO : Hid (TcOk m D) := Lib.hid ⟨m1, m2, m3, m4, hD⟩
 have HD := Lib.hid hD
 have HB := Lib.hid (fun wx : World => begin_any wx 65536 (-1) (by decide) (by decide))
 clear m1 m2 m3 m4
 have HMm := Lib.hid hm
 go_enter Tryz.func3, Tryz.ntmps3
 go_upto_region 9 with (first | (go_at_call 5; go_loud (refine (HA.out _).mono ?_); rintro e w1 ⟨rfl, hk1⟩) | (go_at_call 6; go_loud (refine (HB.out _).mono ?_); rintro e w2 ⟨F, a, rfl, FS, k2⟩))
 have FX0 := Lib.hid (FSx.new (FS.less (fun g hg => Nat.lt_of_lt_of_le hg hk1.size)) (hk1.trans k2))
 clear HA HB FS hk1 k2
 have HW := Lib.hid (Bx.new (Keeps.refl NoB (w2.alloc (.cells #[.int .i64 1, .int .i64 0] 28))))
 have FX1 := Lib.hid (FX0.out.more (P' := fun g => g = w2.heap.size) ((Keeps.refl NoB w2).alloc (.cells #[.int .i64 1, .int .i64 0] 28)) (fun g hg => .inr ⟨by omega, by rw [hg]; simp⟩))
 have hWB : W.heap.size <= w2.heap.size := FX0.out.keeps.size
 clear FX0
 generalize w2.alloc (.cells #[.int .i64 1, .int .i64 0] 28) = w3 at *
 generalize w2.heap.size = WB at *
 have HOp : Hid (Calls Tryz.prog 7 #[.pointer (some ⟨F, 0, none⟩), .agg #[.int .i64 1, .int .i64 0], .string ⟨#[97]⟩, .int .i64 6, .int .i64 384] w3 fun e w' => e = .returned (.tuple #[.int .i64 2, .int .i64 0]) ∧ FSx W (fun g => g = WB) w' F a (cA 384 1 ⟨#[]⟩) 65536 1 (-1) ∧ Bx w' WB [.int .i64 1, .int .i64 0]) := Lib.hid (by
  have h0 : FSx W (fun g => g = WB) w3 F a tA0 65536 0 (-1) := FX1.out
  have := fsx_call h0 HW.out rfl (fun N hN => open_any hN (by decide) (by decide) mass_tA0 1 0 ⟨#[97]⟩ 6 384 (by decide))
  rw [tc_open h0.inv, show openN 0 6 = 1 by decide] at this
  exact this)
 have HWt : Hid (∀ w1, FSx W (fun g => g = WB) w1 F a (cA 384 1 ⟨#[]⟩) 65536 1 (-1) -> Bx w1 WB [.int .i64 1, .int .i64 0] -> Calls Tryz.prog 8 #[.pointer (some ⟨F, 0, none⟩), .int .i64 2, .int .i64 0, .string D] w1 fun e w' => e = .returned (.int .i64 0) ∧ FSx W (fun g => g = WB) w' F a (cA 384 1 D) 65536 2 (-1) ∧ Bx w' WB [.int .i64 1, .int .i64 0]) := Lib.hid fun w1 h1 hb => by
  have := fsx_call h1 hb rfl (fun N hN => fwrite_any hN (by decide) (by decide) 2 0 D (by have := HD.out; omega))
  rw [tc_write HD.out] at this
  exact this
 have HCl : Hid (∀ w1, FSx W (fun g => g = WB) w1 F a (cA 384 1 D) 65536 2 (-1) -> Bx w1 WB [.int .i64 1, .int .i64 0] -> Calls Tryz.prog 9 #[.pointer (some ⟨F, 0, none⟩), .int .i64 2] w1 fun e w' => e = .returned (.int .i64 0) ∧ FSx W (fun g => g = WB) w' F a (cA 384 0 D) 65536 2 (-1) ∧ Bx w' WB [.int .i64 1, .int .i64 0]) := Lib.hid fun w1 h1 hb => by
  have := fsx_call h1 hb rfl (fun N hN => close_any hN 2)
  rw [tc_close.1, tc_close.2] at this
  exact this
 have HCm : Hid (∀ w1, FSx W (fun g => g = WB) w1 F a (cA 384 0 D) 65536 2 (-1) -> Bx w1 WB [.int .i64 1, .int .i64 0] -> Calls Tryz.prog 10 #[.pointer (some ⟨F, 0, none⟩), .agg #[.int .i64 1, .int .i64 0], .string ⟨#[97]⟩, .int .i64 m] w1 fun e w' => e = .returned (.int .i64 0) ∧ FSx W (fun g => g = WB) w' F a (cA m 0 D) 65536 3 (-1) ∧ Bx w' WB [.int .i64 1, .int .i64 0]) := Lib.hid fun w1 h1 hb => by
  have := fsx_call h1 hb rfl (fun N hN => chmod_anyF hN (by decide) (by decide) 1 0 ⟨#[97]⟩ m (by decide))
  rw [tc_chmod HO.out.ok (by decide)] at this
  exact this
 have b0 := HW.out.cell 0 _ rfl
 have b1 := HW.out.cell 1 _ rfl
 have bl := HW.out.lt
 clear FX1 HW hD
 go_upto_region 12 with (first | (go_at_call 7; go_loud (refine HOp.out.mono ?_); rintro e wa ⟨rfl, fa, ba⟩) | (go_at_call 8; go_loud (refine (HWt.out _ fa ba).mono ?_); rintro e wb ⟨rfl, fb, bb⟩) | (go_at_call 9; go_loud (refine (HCl.out _ fb bb).mono ?_); rintro e wc ⟨rfl, fc, bc⟩; have x0 := bc.cell 0 _ rfl; have x1 := bc.cell 1 _ rfl; have xl := bc.lt) | (go_at_call 10; go_loud (refine (HCm.out _ fc bc).mono ?_); rintro e wd ⟨rfl, fd, bd⟩))
 have HF0 := Lib.hid (show FSx W (fun g => g = WB) wd F a (tcD m D 0) 65536 (tcC D 0) (-1) from fd)
 have HW := Lib.hid bd
 clear fd bd HOp HWt HCl HCm fa ba fb bb fc bc hm
 go_wp2_with fail
 have HM0 := Lib.hid (tcm_lay wd)
 have HK0 := Lib.hid (tc_keeps wd)
 have hz0 := tcz7 wd
 have hwl0 := HW.out.lt
 have hFs := HF0.out.keeps.size
 generalize hwl : (((((((wd.alloc (.cells #[.string ⟨#[99, 112]⟩, .string ⟨#[97]⟩, .string ⟨#[98]⟩] 9)).alloc (.cells #[.string ⟨#[109, 118]⟩, .string ⟨#[97]⟩, .string ⟨#[99]⟩] 9)).alloc (.cells #[.string ⟨#[108, 110]⟩, .string ⟨#[99]⟩, .string ⟨#[100]⟩] 9)).alloc (.cells #[.string ⟨#[108, 110]⟩, .string ⟨#[45, 115]⟩, .string ⟨#[99]⟩, .string ⟨#[108]⟩] 9)).alloc (.cells #[.string ⟨#[109, 107, 100, 105, 114]⟩, .string ⟨#[101]⟩] 9)).alloc (.cells #[.string ⟨#[99, 112]⟩, .string ⟨#[108]⟩, .string ⟨#[101]⟩] 9)).alloc (.cells #[.slice (some ⟨wd.heap.size, 0, none⟩) 3 3, .slice (some ⟨wd.heap.size + 1, 0, none⟩) 3 3, .slice (some ⟨wd.heap.size + 1 + 1, 0, none⟩) 3 3, .slice (some ⟨wd.heap.size + 1 + 1 + 1, 0, none⟩) 4 4, .slice (some ⟨wd.heap.size + 1 + 1 + 1 + 1, 0, none⟩) 2 2, .slice (some ⟨wd.heap.size + 1 + 1 + 1 + 1 + 1, 0, none⟩) 3 3] 34)) = wl
 have hwl2 : tcW7 wd = wl := hwl
 rw [hwl2] at HM0 HK0 hz0
 have HFl := Lib.hid (HF0.out.more (P' := fun g => g = WB ∨ (wd.heap.size <= g ∧ g <= wd.heap.size + 6)) HK0.out (fun g hg => hg.elim (fun h => .inl h) (fun h => .inr ⟨h.1, by omega⟩)))
 have HWl := Lib.hid (HW.out.on HK0.out)
 clear HF0 HW HK0 hwl hwl2
 generalize hOB : wd.heap.size + 1 + 1 + 1 + 1 + 1 + 1 = OB
 have HOB := Lib.hid hOB
 generalize wd.heap.size = LB at *
 clear hOB hz0 hwl0 hFs
 go_loopw [89] (fun i wr => ∃ k : Nat, k <= 6 ∧ i = .int .i64 k ∧ FSx W (fun g => g = WB ∨ (LB <= g ∧ g <= LB + 6)) wr F a (tcD m D k) 65536 (tcC D k) (-1) ∧ Bx wr WB [.int .i64 1, .int .i64 0] ∧ TcM wr LB) (fun i _ => 7 - (intOf i).toNat)
 case atStart => exact ⟨0, by omega, rfl, HFl.out, HWl.out, HM0.out⟩
 case round =>
  obtain ⟨k, hk, rfl, hfx, hwb, hla⟩ := hrel
  have FX := Lib.hid hfx
  have HWr := Lib.hid hwb
  have HM := Lib.hid hla
  have b0 := hwb.cell 0 _ rfl
  have b1 := hwb.cell 1 _ rfl
  have bl := hwb.lt
  clear hfx hwb hla HFl HWl HM0
  by_cases hlt : k < 6
  ·obtain ⟨nm, args, hl⟩ := tcRows_some hlt
   have hrow := HM.out.row k _ hl
   have c0 : wr.cell? ⟨OB, k, none⟩ = some (.slice (some ⟨LB + k, 0, none⟩) (args.length + 1) (args.length + 1)) := by
    have := HM.out.out k _ hl
    rw [<- HOB.out]
    exact this
   obtain ⟨g, off, hg, _, hgl, cn0⟩ := hrow.str (i := 0) (x := nm) rfl
   cases hg
   have cn : wr.cell? ⟨LB + k, 0, none⟩ = some (.string nm) := cn0
   have hmx := hrow.max
   unfold maxLen at hmx
   simp only [List.length_cons] at hmx
   have hsub := hrow.sub 1 (args.length + 1) (by omega) (by simp)
   rw [show ((nm :: args).take (args.length + 1)).drop 1 = args by simp] at hsub
   have hsl : ∀ wx : World, (Instr.slice 34 (.slice (some ⟨LB + k, 0, none⟩) (args.length + 1) (args.length + 1)) (some (.int .i64 1)) none none).run Tryz.prog wx = .ok (.slice (subAt 1 (some ⟨LB + k, 0, none⟩) (args.length + 1) 1) args.length args.length) wx := fun wx => run_slice_l (P := Tryz.prog) 34 9 1 Tryz.underlying34 (by kernel_rfl) (some ⟨LB + k, 0, none⟩) (args.length + 1) (args.length + 1) 1 (by omega) wx (by omega)
   have HL := Lib.hid hl
   have HRn : Hid (∀ (wx : World), Keeps NoB wr wx -> ∀ (bt' : TypeId) (bv : Value), Calls Tryz.prog 11 #[.string nm, .slice (subAt 1 (some ⟨LB + k, 0, none⟩) (args.length + 1) 1) args.length args.length, .pointer (some ⟨F, 0, none⟩), .agg #[.int .i64 1, .int .i64 0], .iface bt' bv] wx fun e w' => e = .returned (.agg #[.string ⟨#[]⟩, .string ⟨#[]⟩, .int .i64 0]) ∧ FSx W (fun g => g = WB ∨ (LB <= g ∧ g <= LB + 6)) w' F a (tcD m D (k + 1)) 65536 (tcC D (k + 1)) (-1) ∧ Bx w' WB [.int .i64 1, .int .i64 0] ∧ TcM w' LB) := Lib.hid fun wx kx bt' bv => by
    refine (tc_step hl HO.out (FX.out.on kx) (hsub.keepN kx) bt' bv).mono ?_
    rintro e w' ⟨rfl, h1, h2⟩
    exact ⟨rfl, h1, (FX.out.on kx).kept (HWr.out.on kx) h2 (.inl rfl), (HM.out.keep kx (fun _ _ _ h => h)).keep h2 (fun g h1 h2 hn => hn (.inr (.inr ⟨h1, h2⟩)))⟩
   have HCn : Hid (wr.cell? ⟨LB + k, 0, none⟩ = some (.string nm)) := cn
   clear hrow hsub hl cn0
   generalize subAt 1 (some ⟨LB + k, 0, none⟩) (args.length + 1) 1 = pa at *
   have hk6 : (k : Int) < 6 := by omega
   go_upto_region 15 with fail
   go_cut [104] from 93 to 104 (fun x wx => ∃ wn : World, wn = wx ∧ x = .bool false ∧ FSx W (fun g => g = WB ∨ (LB <= g ∧ g <= LB + 6)) wx F a (tcD m D (k + 1)) 65536 (tcC D (k + 1)) (-1) ∧ Bx wx WB [.int .i64 1, .int .i64 0] ∧ TcM wx LB)
   case first =>
    have krd := (Keeps.refl NoB wr).drew
    have d0 := (HWr.out.on krd).cell 0 _ rfl
    have d1 := (HWr.out.on krd).cell 1 _ rfl
    have d2 : wr.drew.cell? ⟨LB + k, 0, none⟩ = some (.string nm) := cn
    go_region_held3 (fun wz => wz.cell? ⟨WB, 0, none⟩ = some (.int .i64 1) ∧ wz.cell? ⟨WB, 1, none⟩ = some (.int .i64 0) ∧ wz.cell? ⟨LB + k, 0, none⟩ = some (.string nm)) (refine ⟨?_, ?_, ?_⟩ <;> first | with_reducible assumption)
     (first | (go_at_call 11; refine (HRn.out _ (by (repeat (first | with_reducible assumption | (with_reducible exact Keeps.refl _ _) | (with_reducible refine Keeps.drew ?_) | (with_reducible refine Keeps.drewN ?_ _) | (with_reducible refine Keeps.alloc ?_ _)))) _ _).mono ?_; rintro e w5 ⟨rfl, FX5, hb5, hm5⟩; have y0 := hb5.cell 0 _ rfl; have y1 := hb5.cell 1 _ rfl; have y2 : w5.cell? ⟨LB + k, 0, none⟩ = some (.string nm) := by (obtain ⟨g, off, hg, _, _, cc⟩ := (hm5.row k _ (HL.out)).str (i := 0) (x := nm) rfl; cases hg; exact cc)))
    all_goals (go_wp2_with fail; go_meet; exact ⟨_, rfl, rfl, FX5, hb5, hm5⟩)
   case rest =>
    obtain ⟨wq, rfl, rfl, FX5, hb5, hm5⟩ := hcut
    clear b0 b1 bl
    go_wp2_with fail
    go_roundw
    case rel => exact ⟨k + 1, by omega, by go_num, FX5, hb5, hm5⟩
    case measure => simp [intOf]; omega
  ·obtain rfl : k = 6 := by omega
   rw [show ((6 : Nat) : Int) = 6 from rfl]
   have FF : FSx W (fun g => g = WB ∨ (LB <= g ∧ g <= LB + 6)) wr F a (cF m 0 0 D D) 65536 (tcC D 6) (-1) := FX.out
   have ka : Keeps NoB wr (wr.alloc (.cells #[.string ⟨#[98]⟩, .string ⟨#[99]⟩, .string ⟨#[100]⟩, .string ⟨#[108]⟩, .string ⟨#[101, 47, 108]⟩] 9)) := (Keeps.refl _ _).alloc _
   have HLt := Lib.hid ((own_lit (E := encStr) (e := 9) (w := wr) (S := fun _ => True) tcNames #[.string ⟨#[98]⟩, .string ⟨#[99]⟩, .string ⟨#[100]⟩, .string ⟨#[108]⟩, .string ⟨#[101, 47, 108]⟩] rfl 5 rfl trivial (by decide)).at)
   have FXl := Lib.hid (FF.on ka)
   have HWl := Lib.hid (HWr.out.on ka)
   have HKW := Lib.hid FF.keeps
   clear FF FX HWr HM
   go_wp2_with fail
   generalize hwl : wr.alloc (.cells #[.string ⟨#[98]⟩, .string ⟨#[99]⟩, .string ⟨#[100]⟩, .string ⟨#[108]⟩, .string ⟨#[101, 47, 108]⟩] 9) = wl
   rw [hwl] at HLt FXl HWl ka
   have HKl := Lib.hid (HKW.out.trans ka)
   clear hwl ka
   generalize wr.heap.size = LC at *
   obtain ⟨cc, hcc⟩ : ∃ cc, tcC D 6 = cc := ⟨_, rfl⟩
   rw [hcc] at FXl
   clear hcc b0 b1 bl
   have HStA : Hid (∀ (s : ByteArray) (fl : Bool) (wx : World), Keeps NoB wl wx -> s.size <= 3 -> Calls Tryz.prog 12 #[.pointer (some ⟨F, 0, none⟩), .agg #[.int .i64 1, .int .i64 0], .string s, .bool fl] wx fun e w' => e = .returned (.tuple #[.int .i64 (thrR (cF m 0 0 D D) 1 s fl).1.node, statV (cF m 0 0 D D) (thrR (cF m 0 0 D D) 1 s fl), .int .i64 (statE (cF m 0 0 D D) (thrR (cF m 0 0 D D) 1 s fl))]) ∧ Keeps NoB wx w') := Lib.hid fun s fl wx kx hs => (FXl.out.on kx).asks fun N hN => stat_any hN 1 0 s fl (by omega)
   have HDk := Lib.hid (fun (wx : World) (kx : Keeps NoB wl wx) => (FXl.out.on kx).asks fun N hN => disk_any hN)
   have HDt : Hid (∀ (wx : World) (i : Int), Keeps NoB wl wx -> Calls Tryz.prog 14 #[.pointer (some ⟨a, 0, none⟩), .int .i64 i] wx fun e w' => e = .returned (.tuple #[.string (dataOf (cF m 0 0 D D) i), .int .i64 (dataErr (cF m 0 0 D D) i)]) ∧ wx = w') := Lib.hid fun wx i kx => (FXl.out.on kx).asks fun N hN => hN.pd.tells fun _ _ _ hR _ _ => data_any hR i
   go_loopw [108] (fun i wz => ∃ k : Nat, k <= 5 ∧ i = .int .i64 k ∧ Keeps NoB wl wz) (fun i _ => 6 - (intOf i).toNat)
   case atStart => exact ⟨0, by omega, rfl, Keeps.refl _ _⟩
   case round =>
    obtain ⟨k, hk, rfl, hkz⟩ := hrel
    rename_i wz
    have HKz := Lib.hid hkz
    have b0 := (HWl.out.on hkz).cell 0 _ rfl
    have b1 := (HWl.out.on hkz).cell 1 _ rfl
    have bl := (HWl.out.on hkz).lt
    clear hkz
    by_cases hlt : k < 5
    ·obtain ⟨s, hs⟩ : ∃ s, tcNames[k]? = some s := ⟨_, List.getElem?_eq_getElem (by show k < 5; exact hlt)⟩
     obtain ⟨n, L, e1, e2, e3, e4, e5, _⟩ := tc_end (m := m) (D := D) (k := k) (s := s) hs
     obtain ⟨g, off, hg, _, _, c0⟩ := (HLt.out.keepN HKz.out).str hs
     cases hg
     simp only [Nat.zero_add] at c0
     have hk5 : (k : Int) < 5 := by omega
     have HSt := Lib.hid (fun wx kx => HStA.out s true wx kx e5)
     have HDs := Lib.hid (fun wx kx => HDt.out wx n kx)
     rw [e1, e2, e3, <- HMm.out] at HSt
     rw [e4] at HDs
     obtain ⟨de, hde⟩ : ∃ de, dataErr (cF m 0 0 D D) n = de := ⟨_, rfl⟩
     rw [hde] at HDs
     clear e1 e2 e3 e4 e5 hs hde
     have hDD : (D.toList == D.toList) = true := by simp
     go_wp2_with (first | (go_at_call 12; go_loud (refine (HSt.out _ HKz.out).mono ?_); rintro e w4 ⟨rfl, hk4⟩; have k4 := HKz.out.trans hk4; have k5 : Keeps NoB wl (w4.alloc (.cells #[.int .i64 1, .int .i64 (bits BinOp.or IntKind.i64 x 256), .int .i64 L, .int .i64 0, .int .i64 (D.size : Int)] 42)) := k4.alloc _) | (go_at_call 13; go_loud (refine (HDk.out _ k5).mono ?_); rintro e w5 ⟨rfl, rfl⟩) | (go_at_call 14; go_loud (refine (HDs.out _ k5).mono ?_); rintro e w6 ⟨rfl, rfl⟩))
     go_roundw
     case rel => exact ⟨k + 1, by omega, by go_num, k5⟩
     case measure => simp [intOf]; omega
    ·obtain rfl : k = 5 := by omega
     rw [show ((5 : Nat) : Int) = 5 from rfl]
     obtain ⟨n1, L1, c1, c2, c3, c4, c5, c6⟩ := tc_end (m := m) (D := D) (k := 1) (s := ⟨#[99]⟩) rfl
     obtain ⟨n2, L2, d1, d2, d3, d4, d5, d6⟩ := tc_end (m := m) (D := D) (k := 2) (s := ⟨#[100]⟩) rfl
     obtain ⟨rfl, rfl⟩ := c6 (.inl rfl)
     obtain ⟨rfl, rfl⟩ := d6 (.inr rfl)
     obtain ⟨a1, a2, a3⟩ := tc_gone (m := m) (D := D)
     have HSc := Lib.hid (fun wx kx => HStA.out ⟨#[99]⟩ true wx kx (by decide))
     have HSd := Lib.hid (fun wx kx => HStA.out ⟨#[100]⟩ true wx kx (by decide))
     have HSa := Lib.hid (fun wx kx => HStA.out ⟨#[97]⟩ false wx kx (by decide))
     rw [c1, c2, c3] at HSc
     rw [d1, d2, d3] at HSd
     rw [a1, a2, a3] at HSa
     clear c1 c2 c3 c4 c5 c6 d1 d2 d3 d4 d5 d6 a1 a2 a3 HStA
     go_upto_region 27 with (go_at_call 12; go_loud (refine (HSc.out _ HKz.out).mono ?_); rintro e w4 ⟨rfl, hk4⟩)
     have k4 : Keeps NoB wl (w4.alloc (.cells #[.int .i64 1, .int .i64 m, .int .i64 2, .int .i64 0, .int .i64 (D.size : Int)] 42)) := (HKz.out.trans hk4).alloc _
     have HBc := Lib.hid (Bx.new (Keeps.refl NoB (w4.alloc (.cells #[.int .i64 1, .int .i64 m, .int .i64 2, .int .i64 0, .int .i64 (D.size : Int)] 42))))
     have HK4 := Lib.hid k4
     generalize w4.alloc (.cells #[.int .i64 1, .int .i64 m, .int .i64 2, .int .i64 0, .int .i64 (D.size : Int)] 42) = v4 at *
     generalize w4.heap.size = CB at *
     have f0 := (HWl.out.on k4).cell 0 _ rfl
     have f1 := (HWl.out.on k4).cell 1 _ rfl
     have fl := (HWl.out.on k4).lt
     clear b0 b1 bl k4 hk4 HSc
     go_upto_region 28 with (go_at_call 12; go_loud (refine (HSd.out _ HK4.out).mono ?_); rintro e w5 ⟨rfl, hk5⟩)
     have k5 : Keeps NoB v4 (w5.alloc (.cells #[.int .i64 1, .int .i64 m, .int .i64 2, .int .i64 0, .int .i64 (D.size : Int)] 42)) := hk5.alloc _
     have HK5 := Lib.hid k5
     generalize w5.alloc (.cells #[.int .i64 1, .int .i64 m, .int .i64 2, .int .i64 0, .int .i64 (D.size : Int)] 42) = v5 at *
     generalize w5.heap.size = DB at *
     have g0 := (HWl.out.on (HK4.out.trans k5)).cell 0 _ rfl
     have g1 := (HWl.out.on (HK4.out.trans k5)).cell 1 _ rfl
     have gl := (HWl.out.on (HK4.out.trans k5)).lt
     clear f0 f1 fl k5 hk5 HSd
     go_upto_region 29 with (go_at_call 12; go_loud (refine (HSa.out _ (HK4.out.trans HK5.out)).mono ?_); rintro e w6 ⟨rfl, hk6⟩)
     have k6 : Keeps NoB v5 (w6.alloc (.cells #[.int .i64 0, .int .i64 0, .int .i64 0, .int .i64 0, .int .i64 0] 42)) := hk6.alloc _
     have HK6 := Lib.hid k6
     generalize w6.alloc (.cells #[.int .i64 0, .int .i64 0, .int .i64 0, .int .i64 0, .int .i64 0] 42) = v6 at *
     generalize w6.heap.size = AB at *
     have HKv := Lib.hid ((HK4.out.trans HK5.out).trans k6)
     have x2 := (HBc.out.on (HK5.out.trans k6)).cell 2 _ rfl
     have xl := (HBc.out.on (HK5.out.trans k6)).lt
     have y0 := (HWl.out.on HKv.out).cell 0 _ rfl
     have y1 := (HWl.out.on HKv.out).cell 1 _ rfl
     have yl := (HWl.out.on HKv.out).lt
     have kt : Keeps NoB v6 (v6.alloc (.cells #[.string ⟨#[45, 104]⟩, .string ⟨#[108]⟩] 9)) := (Keeps.refl _ _).alloc _
     have hA := (own_lit (E := encStr) (e := 9) (w := v6) (S := fun _ => True) [⟨#[45, 104]⟩, ⟨#[108]⟩] #[.string ⟨#[45, 104]⟩, .string ⟨#[108]⟩] rfl 2 rfl trivial (by decide)).at
     have HRn := Lib.hid (fun (bt' : TypeId) (bv : Value) => tc_test (FXl.out.on (HKv.out.trans kt)) hA bt' bv)
     have hfi : ∀ (r : Int) (wx : World), (Instr.field 37 (.agg #[.string ⟨#[]⟩, .string ⟨#[]⟩, .int .i64 r]) 2).run Tryz.prog wx = .ok (.int .i64 r) wx := fun _ _ => rfl
     have z0 := ((HWl.out.on HKv.out).on kt).cell 0 _ rfl
     have z1 := ((HWl.out.on HKv.out).on kt).cell 1 _ rfl
     have zl := ((HWl.out.on HKv.out).on kt).lt
     clear g0 g1 gl k6 hk6 HSa hA kt
     go_wp2_with (go_at_call 11; go_loud (refine (HRn.out _ _).mono ?_); rintro e w8 ⟨rfl, FX8, k8⟩)
     go_ret
     exact ⟨rfl, FX8.keeps⟩
end Go.Proofs.YtimidmogcbapnaaGreatDoor
