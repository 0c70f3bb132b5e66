/-
  Layer 23: mv, cp. (Printed by gentool.py.)
-/
import Derived.Test.YtimidmogcbapnaaGreatDoorG20
import Derived.Test.YtimidmogcbapnaaGreatDoorG24
import Derived.Test.YtimidmogcbapnaaGreatDoorG16
import Derived.Test.YtimidmogcbapnaaGreatDoorG17

set_option linter.unusedSimpArgs false
set_option linter.unusedVariables false
set_option maxRecDepth 100000
set_option maxHeartbeats 8000000
namespace Go.Proofs.YtimidmogcbapnaaGreatDoor
open Go Go.RowKit
section
variable {W w : World} {Q : Nat -> Prop} {B F a : Nat} {d d' : Nds} {room calls fail at' mask st : Int} {name out err : ByteArray} {iv : Value}
theorem pair_mv {S : Nat -> Prop} {p : Option Addr} {c : Nat} {x y : ByteArray} (h : TW W Q w B F a d room calls fail (wkC ⟨#[109, 118]⟩ F at' mask iv out err st)) (hA : SlAt encStr S w p c [x, y]) (hf : noFlag x = true) (hx : x.size <= 1000) (hy : y.size <= 1000) 
 {n im il ih iz ik : Int} (hn : (thrR d at' y true).1.node = n) (hV : statV d (thrR d at' y true) = .agg #[.int .i64 ik, .int .i64 im, .int .i64 il, .int .i64 ih, .int .i64 iz]) (hE : statE d (thrR d at' y true) = 12)
 (hb : mass d + 3 <= 2147483648) (hc0 : 0 <= calls) (hc1 : calls <= 4611686018427387904) (hd2 : DInv d -> NoGarb d -> orFail calls fail d (renR d room at' x y) = (d', 0)) :
 Calls Tryz.prog 34 #[.pointer (some ⟨B, 0, none⟩), .slice p 2 c] w fun e w' => e = .returned (.tuple #[]) ∧ TW W Q w' B F a d' room (calls + 1) fail (wkC ⟨#[109, 118]⟩ F at' mask iv out err st) ∧ Keeps (Lw W Q) w w' := by
 have HT := Lib.hid h
 have HV := Lib.hid hV
 have HE := Lib.hid hE
 have hsz : y.size <= 4294967280 := by omega
 have HSz := Lib.hid hsz
 have HF := Lib.hid (flags_none hA ⟨#[102]⟩ (fun z hz => by cases hz; exact hf))
 simp only [List.length_cons, List.length_nil, Nat.zero_add] at HF
 obtain ⟨g, o, rfl, _, hgl, t0⟩ := hA.str (i := 0) (x := x) rfl
 obtain ⟨g1, o1, e1, _, _, t1⟩ := hA.str (i := 1) (x := y) rfl
 cases e1
 have hcp := hA.cap
 have hmx := hA.max
 unfold maxLen at hmx
 simp only [List.length_cons, List.length_nil, Nat.zero_add] at hcp
 have HC0 : Hid (w.cell? ⟨g, o, none⟩ = some (.string x)) := t0
 have HC1 : Hid (w.cell? ⟨g, o + 1, none⟩ = some (.string y)) := t1
 have HI1 := Lib.hid (fun wx => ib_any ⟨#[]⟩ 102 wx)
 rw [show bIdx (⟨#[]⟩ : ByteArray) ((102 : Int)).toNat.toUInt8 = -1 by decide] at HI1
 have HM : Hid (∀ w1 : World, TW W Q w1 B F a d room calls fail (wkC ⟨#[109, 118]⟩ F at' mask iv out err st) -> Calls Tryz.prog 73 #[.pointer (some ⟨F, 0, none⟩), .agg #[.int .i64 at', .int .i64 mask], .string x, .string y] w1 fun e w' => e = .returned (.int .i64 0) ∧ TW W Q w' B F a d' room (calls + 1) fail (wkC ⟨#[109, 118]⟩ F at' mask iv out err st) ∧ Keeps (Gd W Q B) w1 w') := Lib.hid fun w1 k => by
  have := k.call (fun N hN => rename_any hN hc0 hc1 at' mask x y (by omega) (by omega))
  rw [hd2 k.fx.inv k.fx.clean] at this
  exact this
 have HWr := Lib.hid (fun w1 : World => wrong_ok (B := B) 1 w1)
 skip
 clear h hA t0 t1 hV hE hf   hd2 hc0 hc1 hb hx hy hsz
 have n0 := HT.out.bx.cell 0 _ rfl
 have nl := HT.out.bx.lt
 go_enter Tryz.func34, Tryz.ntmps34
 go_upto_region 9 with (go_at_call 65; go_loud (refine HF.out.mono ?_); rintro e w1 ⟨rfl, rfl⟩)
 have c0 := HC0.out
 have c1 := HC1.out
 have HK1 := Lib.hid (Keeps.refl NoB w)
 clear HF n0 nl
 go_quiet (fail)
 generalize hwq : World.drewN w _ = wq
 have HTq := Lib.hid (HT.out.on (HK1.out.trans (show Keeps NoB w wq by rw [<- hwq]; exact (Keeps.refl _ _).drewN _)))
 have HKq := Lib.hid (HK1.out.trans (show Keeps NoB w wq by rw [<- hwq]; exact (Keeps.refl _ _).drewN _))
 clear c0 c1 hwq
 have HSt := Lib.hid (fun (w1 : World) (k : Keeps NoB wq w1) => (HTq.out.fx.on k).asks fun N hN => stat_any hN at' mask y true HSz.out)
 rw [HV.out, HE.out, hn] at HSt
 clear hn
 have f0 := HTq.out.bx.cell 1 _ rfl
 have b0 := HTq.out.bx.cell 2 _ rfl
 have b1 := HTq.out.bx.cell 3 _ rfl
 have fl := HTq.out.bx.lt
 go_upto_region 10 with fail
 go_cut [9, 10, 11] from 46 to 59 (fun x y z wx => ∃ G : Nat, ∃ wn : World, wn = wx ∧ wq.heap.size <= G ∧ x = .int .i64 n ∧ y = .pointer (some ⟨G, 0, none⟩) ∧ z = .int .i64 12 ∧ Bx wx G [.int .i64 ik, .int .i64 im, .int .i64 il, .int .i64 ih, .int .i64 iz] ∧ Keeps NoB wq wx)
 case first =>
  have kr := Keeps.refl NoB wq
  have krd := kr.drew
  have d0 := (HTq.out.on krd).bx.cell 1 _ rfl
  have d1 := (HTq.out.on krd).bx.cell 2 _ rfl
  have d2 := (HTq.out.on krd).bx.cell 3 _ rfl
  go_region_held3 (fun wz => wz.cell? ⟨B, 1, none⟩ = some (.pointer (some ⟨F, 0, none⟩)) ∧ wz.cell? ⟨B, 2, none⟩ = some (.int .i64 at') ∧ wz.cell? ⟨B, 3, none⟩ = some (.int .i64 mask) ∧ Keeps NoB wq wz) (refine ⟨?_, ?_, ?_, ?_⟩ <;> first | with_reducible assumption | (with_reducible refine (HTq.out.on ?_).bx.cell 1 _ rfl; (repeat (first | with_reducible assumption | (with_reducible exact Keeps.refl _ _) | (with_reducible refine Keeps.drew ?_) | (with_reducible refine Keeps.drewN ?_ _) | (with_reducible refine Keeps.alloc ?_ _) | (with_reducible refine Keeps.setCell ?_ (by first | exact Or.inl rfl | exact Or.inr (Nat.le_refl _) | exact Or.inr (by first | (simp; done) | (simp; omega))) _))); done) | (with_reducible refine (HTq.out.on ?_).bx.cell 2 _ rfl; (repeat (first | with_reducible assumption | (with_reducible exact Keeps.refl _ _) | (with_reducible refine Keeps.drew ?_) | (with_reducible refine Keeps.drewN ?_ _) | (with_reducible refine Keeps.alloc ?_ _) | (with_reducible refine Keeps.setCell ?_ (by first | exact Or.inl rfl | exact Or.inr (Nat.le_refl _) | exact Or.inr (by first | (simp; done) | (simp; omega))) _))); done) | (with_reducible refine (HTq.out.on ?_).bx.cell 3 _ rfl; (repeat (first | with_reducible assumption | (with_reducible exact Keeps.refl _ _) | (with_reducible refine Keeps.drew ?_) | (with_reducible refine Keeps.drewN ?_ _) | (with_reducible refine Keeps.alloc ?_ _) | (with_reducible refine Keeps.setCell ?_ (by first | exact Or.inl rfl | exact Or.inr (Nat.le_refl _) | exact Or.inr (by first | (simp; done) | (simp; omega))) _))); done) | ((repeat (first | with_reducible assumption | (with_reducible exact Keeps.refl _ _) | (with_reducible refine Keeps.drew ?_) | (with_reducible refine Keeps.drewN ?_ _) | (with_reducible refine Keeps.alloc ?_ _) | (with_reducible refine Keeps.setCell ?_ (by first | exact Or.inl rfl | exact Or.inr (Nat.le_refl _) | exact Or.inr (by first | (simp; done) | (simp; omega))) _))); done))
   (first | (go_at_call 12; refine (HSt.out _ (by (repeat (first | with_reducible assumption | (with_reducible exact Keeps.refl _ _) | (with_reducible refine Keeps.drew ?_) | (with_reducible refine Keeps.drewN ?_ _) | (with_reducible refine Keeps.alloc ?_ _) | (with_reducible refine Keeps.setCell ?_ (by first | exact Or.inl rfl | exact Or.inr (Nat.le_refl _) | exact Or.inr (by first | (simp; done) | (simp; omega))) _))))).mono ?_; rintro e w2 ⟨rfl, hk2⟩; have zky : Keeps NoB wq w2 := Keeps.trans (by (repeat (first | with_reducible assumption | (with_reducible exact Keeps.refl _ _) | (with_reducible refine Keeps.drew ?_) | (with_reducible refine Keeps.drewN ?_ _) | (with_reducible refine Keeps.alloc ?_ _) | (with_reducible refine Keeps.setCell ?_ (by first | exact Or.inl rfl | exact Or.inr (Nat.le_refl _) | exact Or.inr (by first | (simp; done) | (simp; omega))) _)))) hk2; have zs := zky.size; have z0 := (HTq.out.on zky).bx.cell 1 _ rfl; have z1 := (HTq.out.on zky).bx.cell 2 _ rfl; have z2 := (HTq.out.on zky).bx.cell 3 _ rfl; (try (have yb := Bx.newD hk2; have y0 := yb.cell 0 _ rfl; have y1 := yb.cell 1 _ rfl; have y2 := yb.cell 2 _ rfl; have y3 := yb.cell 3 _ rfl; have y4 := yb.cell 4 _ rfl; have yf := yb.fz))))
  all_goals (go_wp2_with fail; go_meet; refine ⟨_, _, rfl, ?_, rfl, rfl, rfl, ?_, ?_⟩)
  all_goals first
   | exact Nat.le_refl _
   | exact zs
   | (with_reducible exact Bx.new (Keeps.refl NoB _))
   | (exact ((((yb.put 0 _).put 1 _).put 2 _).put 3 _).put 4 _)
   | ((repeat (first | with_reducible assumption | (with_reducible exact Keeps.refl _ _) | (with_reducible refine Keeps.drew ?_) | (with_reducible refine Keeps.drewN ?_ _) | (with_reducible refine Keeps.alloc ?_ _) | (with_reducible refine Keeps.setCell ?_ (by first | exact Or.inl rfl | exact Or.inr (Nat.le_refl _) | exact Or.inr (by first | (simp; done) | (simp; omega))) _))); done)
   | skip
 case rest =>
  obtain ⟨HIB, w5, rfl, hG, rfl, rfl, rfl, HI, hk⟩ := hcut
  replace HI := Lib.hid HI
  have HK := Lib.hid hk
  have HG := Lib.hid hG
  replace HTq := Lib.hid (HTq.out.on hk)
  clear f0 b0 b1 fl HSt hG hk
  have i0 := HI.out.cell 0 _ rfl
  have n0 := HTq.out.bx.cell 0 _ rfl
  have nl := HTq.out.bx.lt
  go_upto_region 22 with (go_at_call 42; go_loud (refine (HI1.out _).mono ?_); rintro e w3 ⟨rfl, rfl⟩)
  clear i0 n0 nl
  have f0 := HTq.out.bx.cell 1 _ rfl
  have b0 := HTq.out.bx.cell 2 _ rfl
  have b1 := HTq.out.bx.cell 3 _ rfl
  have fl := HTq.out.bx.lt
  have krd := (Keeps.refl NoB w5).drew
  have d0 := (HTq.out.on krd).bx.cell 1 _ rfl
  have d1 := (HTq.out.on krd).bx.cell 2 _ rfl
  have d2 := (HTq.out.on krd).bx.cell 3 _ rfl
  go_region_held3 (fun wz => wz.cell? ⟨B, 1, none⟩ = some (.pointer (some ⟨F, 0, none⟩)) ∧ wz.cell? ⟨B, 2, none⟩ = some (.int .i64 at') ∧ wz.cell? ⟨B, 3, none⟩ = some (.int .i64 mask)) (refine ⟨?_, ?_, ?_⟩ <;> first | with_reducible assumption)
   (first | (go_at_call 73; refine (HM.out _ (HTq.out.on (by (repeat (first | with_reducible assumption | (with_reducible exact Keeps.refl _ _) | (with_reducible refine Keeps.drew ?_) | (with_reducible refine Keeps.drewN ?_ _) | (with_reducible refine Keeps.alloc ?_ _) | (with_reducible refine Keeps.setCell ?_ (by first | exact Or.inl rfl | exact Or.inr (Nat.le_refl _) | exact Or.inr (by first | (simp; done) | (simp; omega))) _)))))).mono ?_; rintro e w6 ⟨rfl, ht6, hk6⟩; have hl6 : Keeps (Lw W Q) w5 w6 := Keeps.trans (Keeps.of_none (by (repeat (first | with_reducible assumption | (with_reducible exact Keeps.refl _ _) | (with_reducible refine Keeps.drew ?_) | (with_reducible refine Keeps.drewN ?_ _) | (with_reducible refine Keeps.alloc ?_ _) | (with_reducible refine Keeps.setCell ?_ (by first | exact Or.inl rfl | exact Or.inr (Nat.le_refl _) | exact Or.inr (by first | (simp; done) | (simp; omega))) _))))) (gd_low hk6); have z0 := ht6.bx.cell 1 _ rfl; have z1 := ht6.bx.cell 2 _ rfl; have z2 := ht6.bx.cell 3 _ rfl) | (go_at_call 30; refine (HWr.out _).mono ?_; rintro e w7 ⟨rfl, rfl⟩))
  all_goals (go_wp2_with fail; go_end0; exact ⟨rfl, ht6, (HKq.out.trans HK.out).of_none.trans hl6⟩)
theorem pair_cp {S : Nat -> Prop} {p : Option Addr} {c : Nat} {x y : ByteArray} (h : TW W Q w B F a d room calls fail (wkC ⟨#[99, 112]⟩ F at' mask iv out err st)) (hA : SlAt encStr S w p c [x, y]) (hf : noFlag x = true) (hx : x.size <= 1000) (hy : y.size <= 1000) 
 {n im il ih iz ik : Int} (hn : (thrR d at' y true).1.node = n) (hV : statV d (thrR d at' y true) = .agg #[.int .i64 ik, .int .i64 im, .int .i64 il, .int .i64 ih, .int .i64 iz]) (hE : statE d (thrR d at' y true) = 12)
 {calls' : Int} (hC : ∀ w1, TW W Q w1 B F a d room calls fail (wkC ⟨#[99, 112]⟩ F at' mask iv out err st) -> Calls Tryz.prog 74 #[.pointer (some ⟨B, 0, none⟩), .string x, .string y] w1 fun e w' => e = .returned (.int .i64 0) ∧ TW W Q w' B F a d' room calls' fail (wkC ⟨#[99, 112]⟩ F at' mask iv out err st) ∧ Keeps (Lw W Q) w1 w') :
 Calls Tryz.prog 34 #[.pointer (some ⟨B, 0, none⟩), .slice p 2 c] w fun e w' => e = .returned (.tuple #[]) ∧ TW W Q w' B F a d' room calls' fail (wkC ⟨#[99, 112]⟩ F at' mask iv out err st) ∧ Keeps (Lw W Q) w w' := by
 have HT := Lib.hid h
 have HV := Lib.hid hV
 have HE := Lib.hid hE
 have hsz : y.size <= 4294967280 := by omega
 have HSz := Lib.hid hsz
 have HF := Lib.hid (flags_none hA ⟨#[]⟩ (fun z hz => by cases hz; exact hf))
 simp only [List.length_cons, List.length_nil, Nat.zero_add] at HF
 obtain ⟨g, o, rfl, _, hgl, t0⟩ := hA.str (i := 0) (x := x) rfl
 obtain ⟨g1, o1, e1, _, _, t1⟩ := hA.str (i := 1) (x := y) rfl
 cases e1
 have hcp := hA.cap
 have hmx := hA.max
 unfold maxLen at hmx
 simp only [List.length_cons, List.length_nil, Nat.zero_add] at hcp
 have HC0 : Hid (w.cell? ⟨g, o, none⟩ = some (.string x)) := t0
 have HC1 : Hid (w.cell? ⟨g, o + 1, none⟩ = some (.string y)) := t1
 have HI1 := Lib.hid (fun wx => ib_any ⟨#[]⟩ 102 wx)
 rw [show bIdx (⟨#[]⟩ : ByteArray) ((102 : Int)).toNat.toUInt8 = -1 by decide] at HI1
 have HM := Lib.hid hC
 have HWr := Lib.hid (fun w1 : World => wrong_ok (B := B) 1 w1)
 skip
 clear h hA t0 t1 hV hE hf   hC hx hy hsz
 have n0 := HT.out.bx.cell 0 _ rfl
 have nl := HT.out.bx.lt
 go_enter Tryz.func34, Tryz.ntmps34
 go_upto_region 9 with (go_at_call 65; go_loud (refine HF.out.mono ?_); rintro e w1 ⟨rfl, rfl⟩)
 have c0 := HC0.out
 have c1 := HC1.out
 have HK1 := Lib.hid (Keeps.refl NoB w)
 clear HF n0 nl
 go_quiet (fail)
 generalize hwq : World.drewN w _ = wq
 have HTq := Lib.hid (HT.out.on (HK1.out.trans (show Keeps NoB w wq by rw [<- hwq]; exact (Keeps.refl _ _).drewN _)))
 have HKq := Lib.hid (HK1.out.trans (show Keeps NoB w wq by rw [<- hwq]; exact (Keeps.refl _ _).drewN _))
 clear c0 c1 hwq
 have HSt := Lib.hid (fun (w1 : World) (k : Keeps NoB wq w1) => (HTq.out.fx.on k).asks fun N hN => stat_any hN at' mask y true HSz.out)
 rw [HV.out, HE.out, hn] at HSt
 clear hn
 have f0 := HTq.out.bx.cell 1 _ rfl
 have b0 := HTq.out.bx.cell 2 _ rfl
 have b1 := HTq.out.bx.cell 3 _ rfl
 have fl := HTq.out.bx.lt
 go_upto_region 10 with fail
 go_cut [9, 10, 11] from 46 to 59 (fun x y z wx => ∃ G : Nat, ∃ wn : World, wn = wx ∧ wq.heap.size <= G ∧ x = .int .i64 n ∧ y = .pointer (some ⟨G, 0, none⟩) ∧ z = .int .i64 12 ∧ Bx wx G [.int .i64 ik, .int .i64 im, .int .i64 il, .int .i64 ih, .int .i64 iz] ∧ Keeps NoB wq wx)
 case first =>
  have kr := Keeps.refl NoB wq
  have krd := kr.drew
  have d0 := (HTq.out.on krd).bx.cell 1 _ rfl
  have d1 := (HTq.out.on krd).bx.cell 2 _ rfl
  have d2 := (HTq.out.on krd).bx.cell 3 _ rfl
  go_region_held3 (fun wz => wz.cell? ⟨B, 1, none⟩ = some (.pointer (some ⟨F, 0, none⟩)) ∧ wz.cell? ⟨B, 2, none⟩ = some (.int .i64 at') ∧ wz.cell? ⟨B, 3, none⟩ = some (.int .i64 mask) ∧ Keeps NoB wq wz) (refine ⟨?_, ?_, ?_, ?_⟩ <;> first | with_reducible assumption | (with_reducible refine (HTq.out.on ?_).bx.cell 1 _ rfl; (repeat (first | with_reducible assumption | (with_reducible exact Keeps.refl _ _) | (with_reducible refine Keeps.drew ?_) | (with_reducible refine Keeps.drewN ?_ _) | (with_reducible refine Keeps.alloc ?_ _) | (with_reducible refine Keeps.setCell ?_ (by first | exact Or.inl rfl | exact Or.inr (Nat.le_refl _) | exact Or.inr (by first | (simp; done) | (simp; omega))) _))); done) | (with_reducible refine (HTq.out.on ?_).bx.cell 2 _ rfl; (repeat (first | with_reducible assumption | (with_reducible exact Keeps.refl _ _) | (with_reducible refine Keeps.drew ?_) | (with_reducible refine Keeps.drewN ?_ _) | (with_reducible refine Keeps.alloc ?_ _) | (with_reducible refine Keeps.setCell ?_ (by first | exact Or.inl rfl | exact Or.inr (Nat.le_refl _) | exact Or.inr (by first | (simp; done) | (simp; omega))) _))); done) | (with_reducible refine (HTq.out.on ?_).bx.cell 3 _ rfl; (repeat (first | with_reducible assumption | (with_reducible exact Keeps.refl _ _) | (with_reducible refine Keeps.drew ?_) | (with_reducible refine Keeps.drewN ?_ _) | (with_reducible refine Keeps.alloc ?_ _) | (with_reducible refine Keeps.setCell ?_ (by first | exact Or.inl rfl | exact Or.inr (Nat.le_refl _) | exact Or.inr (by first | (simp; done) | (simp; omega))) _))); done) | ((repeat (first | with_reducible assumption | (with_reducible exact Keeps.refl _ _) | (with_reducible refine Keeps.drew ?_) | (with_reducible refine Keeps.drewN ?_ _) | (with_reducible refine Keeps.alloc ?_ _) | (with_reducible refine Keeps.setCell ?_ (by first | exact Or.inl rfl | exact Or.inr (Nat.le_refl _) | exact Or.inr (by first | (simp; done) | (simp; omega))) _))); done))
   (first | (go_at_call 12; refine (HSt.out _ (by (repeat (first | with_reducible assumption | (with_reducible exact Keeps.refl _ _) | (with_reducible refine Keeps.drew ?_) | (with_reducible refine Keeps.drewN ?_ _) | (with_reducible refine Keeps.alloc ?_ _) | (with_reducible refine Keeps.setCell ?_ (by first | exact Or.inl rfl | exact Or.inr (Nat.le_refl _) | exact Or.inr (by first | (simp; done) | (simp; omega))) _))))).mono ?_; rintro e w2 ⟨rfl, hk2⟩; have zky : Keeps NoB wq w2 := Keeps.trans (by (repeat (first | with_reducible assumption | (with_reducible exact Keeps.refl _ _) | (with_reducible refine Keeps.drew ?_) | (with_reducible refine Keeps.drewN ?_ _) | (with_reducible refine Keeps.alloc ?_ _) | (with_reducible refine Keeps.setCell ?_ (by first | exact Or.inl rfl | exact Or.inr (Nat.le_refl _) | exact Or.inr (by first | (simp; done) | (simp; omega))) _)))) hk2; have zs := zky.size; have z0 := (HTq.out.on zky).bx.cell 1 _ rfl; have z1 := (HTq.out.on zky).bx.cell 2 _ rfl; have z2 := (HTq.out.on zky).bx.cell 3 _ rfl; (try (have yb := Bx.newD hk2; have y0 := yb.cell 0 _ rfl; have y1 := yb.cell 1 _ rfl; have y2 := yb.cell 2 _ rfl; have y3 := yb.cell 3 _ rfl; have y4 := yb.cell 4 _ rfl; have yf := yb.fz))))
  all_goals (go_wp2_with fail; go_meet; refine ⟨_, _, rfl, ?_, rfl, rfl, rfl, ?_, ?_⟩)
  all_goals first
   | exact Nat.le_refl _
   | exact zs
   | (with_reducible exact Bx.new (Keeps.refl NoB _))
   | (exact ((((yb.put 0 _).put 1 _).put 2 _).put 3 _).put 4 _)
   | ((repeat (first | with_reducible assumption | (with_reducible exact Keeps.refl _ _) | (with_reducible refine Keeps.drew ?_) | (with_reducible refine Keeps.drewN ?_ _) | (with_reducible refine Keeps.alloc ?_ _) | (with_reducible refine Keeps.setCell ?_ (by first | exact Or.inl rfl | exact Or.inr (Nat.le_refl _) | exact Or.inr (by first | (simp; done) | (simp; omega))) _))); done)
   | skip
 case rest =>
  obtain ⟨HIB, w5, rfl, hG, rfl, rfl, rfl, HI, hk⟩ := hcut
  replace HI := Lib.hid HI
  have HK := Lib.hid hk
  have HG := Lib.hid hG
  replace HTq := Lib.hid (HTq.out.on hk)
  clear f0 b0 b1 fl HSt hG hk
  have i0 := HI.out.cell 0 _ rfl
  have n0 := HTq.out.bx.cell 0 _ rfl
  have nl := HTq.out.bx.lt
  go_wp2_with (first | (go_at_call 42; go_loud (refine (HI1.out _).mono ?_); rintro e w3 ⟨rfl, rfl⟩) | (go_at_call 74; go_loud (refine (HM.out _ HTq.out).mono ?_); rintro e w6 ⟨rfl, ht6, hk6⟩) | (go_at_call 30; go_loud (refine (HWr.out _).mono ?_); rintro e w7 ⟨rfl, rfl⟩))
  go_end0
  exact ⟨rfl, ht6, (HKq.out.trans HK.out).of_none.trans hk6⟩
end
set_option maxHeartbeats 4000000
section
variable {N : Nat -> Prop} {w w' : World} {F a : Nat} {d d' : Nds} {room calls fail : Int}
theorem sym_any (h : FSt N w F a d room calls fail) (hc0 : 0 <= calls) (hc1 : calls <= 4611686018427387904) (hbm : mass d + 3 <= 2147483648) (at' mask : Int) (t s : ByteArray) (hst : t.size <= 4294967280) (hsz : s.size <= 4294967280) :
 Calls Tryz.prog 75 #[.pointer (some ⟨F, 0, none⟩), .agg #[.int .i64 at', .int .i64 mask], .string t, .string s] w
  (FTo N w F a (orFail calls fail d (symR d room at' t s)).1 room (calls + 1) fail (.int .i64 (orFail calls fail d (symR d room at' t s)).2)) := by
 have kz0 : Keeps NoB w (w.alloc (.cells #[.int .i64 at', .int .i64 mask] 28)) := (Keeps.refl _ _).alloc _
 obtain ⟨N1, hsub, hnew, FS⟩ := h.wider kz0
 have HW := Lib.hid (Bx.new (Keeps.refl NoB (w.alloc (.cells #[.int .i64 at', .int .i64 mask] 28))))
 have HNW := Lib.hid (hnew w.heap.size (Nat.le_refl _) (by simp))
 have HK := Lib.hid (kz0.of_none (F := fun g => ¬ N g))
 have HSub := Lib.hid hsub
 clear hsub hnew h kz0
 have HC := Lib.hid (call_any FS hc0 hc1)
 obtain ⟨ce, hce⟩ : ∃ ce, callE calls fail = ce := ⟨_, rfl⟩
 obtain ⟨O, hO⟩ : ∃ O, orFail calls fail d (symR d room at' t s) = O := ⟨_, rfl⟩
 have HOF := Lib.hid (show O = if ce ≠ 0 then (d, ce) else symR d room at' t s by rw [<- hO]; unfold orFail; rw [hce])
 rw [hO]
 clear hO
 rw [hce] at HC
 clear hce FS hc0 hc1
 go_enter Tryz.func75, Tryz.ntmps75
 go_upto_region 1 with fail
 generalize w.alloc (.cells #[.int .i64 at', .int .i64 mask] 28) = w0 at *
 generalize w.heap.size = W at *
 go_upto_region 2 with (go_at_call 20; go_loud (refine HC.out.mono ?_); rintro e wc ⟨rfl, FS, k1⟩; replace HW := Lib.hid (HW.out.keep k1 (fun hh => hh HNW.out)); replace HK := Lib.hid (HK.out.trans (k1.mono (fun g _ hg hN => hg (HSub.out g hN)))))
 have HFS := Lib.hid FS
 clear HC k1 FS
 by_cases hz : ce ≠ 0
 ·have hb : (ce != 0) = true := by simpa using hz
  rw [if_pos hz] at HOF
  clear hz
  go_wp2_with fail
  go_ret
  exact ⟨ret_i64 (by rw [HOF.out]), (by rw [HOF.out]; exact HFS.out.less HSub.out), HK.out⟩
 rw [if_neg hz] at HOF
 obtain rfl : ce = 0 := Classical.not_not.1 hz
 clear hz
 unfold symR at HOF
 have he := isEmpty_eq t
 by_cases t0 : t = ⟨#[]⟩
 ·rw [decide_eq_true t0] at he
  replace HOF := Lib.hid (show O = (d, 12) by rw [HOF.out]; unfold pathErr; rw [if_pos t0, if_pos (by decide)])
  clear t0
  go_wp2_with fail
  go_ret
  exact ⟨ret_i64 (by rw [HOF.out]), (by rw [HOF.out]; exact HFS.out.less HSub.out), HK.out⟩
 rw [decide_eq_false t0] at he
 by_cases t1 : 4095 < t.size
 ·have hb : (4095 : Int) < (t.size : Int) := by omega
  replace HOF := Lib.hid (show O = (d, 18) by rw [HOF.out]; unfold pathErr; rw [if_neg t0, if_pos t1, if_pos (by decide)])
  clear t0 t1
  go_wp2_with fail
  go_ret
  exact ⟨ret_i64 (by rw [HOF.out]), (by rw [HOF.out]; exact HFS.out.less HSub.out), HK.out⟩
 have hb1 : ¬ (4095 : Int) < (t.size : Int) := by omega
 have HRi := Lib.hid (fun wx : World => pathright_any t wx)
 by_cases t2 : 0 <= bIdx t 0
 ·rw [decide_eq_false (by unfold pathErr; rw [if_neg t0, if_neg t1, if_pos t2]; decide : ¬ pathErr t = 0)] at HRi
  replace HOF := Lib.hid (show O = (d, 11) by rw [HOF.out]; unfold pathErr; rw [if_neg t0, if_neg t1, if_pos t2, if_pos (by decide)])
  clear t0 t1 t2
  go_wp2_with (go_at_call 109; refine (HRi.out _).mono ?_; rintro e w' ⟨rfl, rfl⟩)
  go_ret
  exact ⟨ret_i64 (by rw [HOF.out]), (by rw [HOF.out]; exact HFS.out.less HSub.out), HK.out⟩
 rw [decide_eq_true (by unfold pathErr; rw [if_neg t0, if_neg t1, if_neg t2] : pathErr t = 0)] at HRi
 have hpe : pathErr t = 0 := by unfold pathErr; rw [if_neg t0, if_neg t1, if_neg t2]
 rw [hpe, if_neg (by decide)] at HOF
 clear t0 t1 t2 hpe
 go_upto_region 10 with (go_at_call 109; refine (HRi.out _).mono ?_; rintro e w' ⟨rfl, rfl⟩)
 clear HRi
 have b0 := HW.out.cell 0 _ rfl
 have b1 := HW.out.cell 1 _ rfl
 have HFr := Lib.hid (free_any HFS.out at' mask s false hsz)
 obtain ⟨X, hX⟩ : ∃ X, freeR d at' s false = X := ⟨_, rfl⟩
 rw [hX] at HFr HOF
 obtain ⟨⟨pn, pd, pm⟩, pe⟩ := X
 unfold plcV at HFr
 simp only at HFr HOF
 have HXp := Lib.hid hX
 clear hX
 go_upto_region 11 with (go_at_call 38; go_loud (refine HFr.out.mono ?_); rintro e w2 ⟨rfl, k2⟩)
 have HP := Lib.hid (Bx.new (Keeps.refl NoB (w2.alloc (.cells #[.int .i64 pn, .int .i64 pd, .string pm] 60))))
 have hk1 : Keeps NoB wc (w2.alloc (.cells #[.int .i64 pn, .int .i64 pd, .string pm] 60)) := k2.alloc _
 clear b0 b1 HFr
 obtain ⟨N9, g1, g2, g3⟩ := HFS.out.wider hk1
 have HGU := Lib.hid (⟨N9, fun g hg => g1 g (HSub.out g hg), g2 w2.heap.size k2.size (by simp), g3⟩ : ∃ N2 : Nat -> Prop, (∀ g, N g -> N2 g) ∧ N2 w2.heap.size ∧ FSt N2 _ F a d room (calls + 1) fail)
 clear g1 g2 g3 k2
 replace HFS := Lib.hid (HFS.out.on hk1)
 replace HK := Lib.hid (HK.out.trans hk1.of_none)
 replace HW := Lib.hid (HW.out.on hk1)
 clear hk1
 generalize w2.alloc (.cells #[.int .i64 pn, .int .i64 pd, .string pm] 60) = wc at *
 generalize w2.heap.size = HPB at *
 by_cases hz : pe ≠ 0
 ·have hb : (pe != 0) = true := by simpa using hz
  rw [if_pos hz] at HOF
  clear hz
  go_wp2_with fail
  go_ret
  exact ⟨ret_i64 (by rw [HOF.out]), (by rw [HOF.out]; exact HFS.out.less HSub.out), HK.out⟩
 rw [if_neg hz] at HOF
 obtain rfl : pe = 0 := Classical.not_not.1 hz
 clear hz
 have f0 := HFS.out.c0
 obtain ⟨N2, hN12, hNP, FS2⟩ : ∃ N2 : Nat -> Prop, (∀ g, N g -> N2 g) ∧ N2 HPB ∧ FSt N2 wc F a d room (calls + 1) fail := by
  obtain ⟨N2, h1, h2, h3⟩ := HGU.out
  exact ⟨N2, h1, h2, h3⟩
 have HMk := Lib.hid (FS2.prog2 fun R hR => makeD_any hR 3 511 t (by omega) (Nat.le_trans hst (by decide)))
 replace HSub := Lib.hid hN12
 clear HFS HGU FS2 hN12
 obtain ⟨me, hme⟩ : ∃ me, makeErr d room 3 511 t = me := ⟨_, rfl⟩
 obtain ⟨mi, hmi⟩ : ∃ mi, makeId d room 3 511 t = mi := ⟨_, rfl⟩
 obtain ⟨mt, hmt⟩ : ∃ mt, makeTo d room 3 511 t = mt := ⟨_, rfl⟩
 rw [hme, hmi, hmt] at HMk
 go_upto_region 14 with (go_at_call 39; go_loud (refine HMk.out.mono ?_); rintro e w4 ⟨rfl, FS4, k4⟩)
 have HP4 := Lib.hid (HP.out.keep k4 (fun hh => hh hNP))
 replace HK := Lib.hid (HK.out.trans (k4.mono (fun g _ hg hN => hg (HSub.out g hN))))
 have HFS := Lib.hid FS4
 clear HMk FS4 k4 f0 HP HW
 by_cases hz : me ≠ 0
 ·have ht : mt = d := by rw [<- hmt]; unfold makeTo; rw [if_neg (by rw [hme]; exact hz)]
  subst ht
  replace HOF := Lib.hid (show O = (mt, me) by rw [HOF.out]; unfold madeR; rw [hme, if_pos hz])
  have hb : (me != 0) = true := by simpa using hz
  clear hz hme hmi hmt
  go_wp2_with fail
  go_ret
  exact ⟨ret_i64 (by rw [HOF.out]), (by rw [HOF.out]; exact HFS.out.less HSub.out), HK.out⟩
 obtain rfl : me = 0 := Classical.not_not.1 hz
 obtain ⟨e1, e2⟩ := makeTo_ok hme
 obtain ⟨x1, x2, _⟩ := freeR_ok HXp.out
 replace HOF := Lib.hid (show O = entrR (d ++ [newNd 3 511 t]) room ⟨pn, pd, pm⟩ d.length by rw [HOF.out]; unfold madeR; rw [hme, if_neg (by simp)])
 rw [<- hmt, e1] at HFS
 rw [<- hmi, e2]
 have HEn := Lib.hid (enter_anyF HFS.out ⟨pn, pd, pm⟩ d.length (by rw [mass_made]; omega) (Nat.le_trans x2 (by decide)) (fun _ _ => made_above x1))
 rw [<- HOF.out] at HEn
 unfold plcV at HEn
 simp only at HEn
 have p0 := HP4.out.cell 0 _ rfl
 have p1 := HP4.out.cell 1 _ rfl
 have p2 := HP4.out.cell 2 _ rfl
 generalize (d.length : Int) = id at *
 clear HFS hz e1 e2 x1 x2 hme hmi hmt HP4
 go_wp2_with (go_at_call 41; go_loud (refine HEn.out.mono ?_); rintro e w5 ⟨rfl, FS5, k5⟩)
 go_ret
 exact ⟨rfl, FS5.less HSub.out, HK.out.trans (k5.mono (fun g _ hg hN => hg (HSub.out g hN)))⟩
end
set_option maxHeartbeats 8000000
section
variable {W w : World} {Q : Nat -> Prop} {B F a : Nat} {d d' : Nds} {room calls fail at' mask st : Int} {name out err : ByteArray} {iv : Value}
theorem pair_ln {S : Nat -> Prop} {p : Option Addr} {c : Nat} {x y : ByteArray} (h : TW W Q w B F a d room calls fail (wkC ⟨#[108, 110]⟩ F at' mask iv out err st)) (hA : SlAt encStr S w p c [x, y]) (hf : noFlag x = true) (hx : x.size <= 1000) (hy : y.size <= 1000) 
 {n im il ih iz ik : Int} (hn : (thrR d at' y true).1.node = n) (hV : statV d (thrR d at' y true) = .agg #[.int .i64 ik, .int .i64 im, .int .i64 il, .int .i64 ih, .int .i64 iz]) (hE : statE d (thrR d at' y true) = 12)
 {n2 km kl kh kz kk : Int} (hn2 : (thrR d at' y false).1.node = n2) (hV2 : statV d (thrR d at' y false) = .agg #[.int .i64 kk, .int .i64 km, .int .i64 kl, .int .i64 kh, .int .i64 kz]) (hE2 : statE d (thrR d at' y false) = 12)
 (hb : mass d + 3 <= 2147483648) (hc0 : 0 <= calls) (hc1 : calls <= 4611686018427387904) (hd2 : DInv d -> NoGarb d -> orFail calls fail d (linkR d room at' x y) = (d', 0)) :
 Calls Tryz.prog 34 #[.pointer (some ⟨B, 0, none⟩), .slice p 2 c] w fun e w' => e = .returned (.tuple #[]) ∧ TW W Q w' B F a d' room (calls + 1) fail (wkC ⟨#[108, 110]⟩ F at' mask iv out err st) ∧ Keeps (Lw W Q) w w' := by
 have HT := Lib.hid h
 have HV := Lib.hid hV
 have HE := Lib.hid hE
 have hsz : y.size <= 4294967280 := by omega
 have HSz := Lib.hid hsz
 have HF := Lib.hid (flags_none hA ⟨#[115, 102]⟩ (fun z hz => by cases hz; exact hf))
 simp only [List.length_cons, List.length_nil, Nat.zero_add] at HF
 obtain ⟨g, o, rfl, _, hgl, t0⟩ := hA.str (i := 0) (x := x) rfl
 obtain ⟨g1, o1, e1, _, _, t1⟩ := hA.str (i := 1) (x := y) rfl
 cases e1
 have hcp := hA.cap
 have hmx := hA.max
 unfold maxLen at hmx
 simp only [List.length_cons, List.length_nil, Nat.zero_add] at hcp
 have HC0 : Hid (w.cell? ⟨g, o, none⟩ = some (.string x)) := t0
 have HC1 : Hid (w.cell? ⟨g, o + 1, none⟩ = some (.string y)) := t1
 have HI1 := Lib.hid (fun wx => ib_any ⟨#[]⟩ 102 wx)
 rw [show bIdx (⟨#[]⟩ : ByteArray) ((102 : Int)).toNat.toUInt8 = -1 by decide] at HI1
 have HIs := Lib.hid (fun wx => ib_any ⟨#[]⟩ 115 wx)
 rw [show bIdx (⟨#[]⟩ : ByteArray) ((115 : Int)).toNat.toUInt8 = -1 by decide] at HIs
 have HV2 := Lib.hid hV2
 have HE2 := Lib.hid hE2
 have HM : Hid (∀ w1 : World, TW W Q w1 B F a d room calls fail (wkC ⟨#[108, 110]⟩ F at' mask iv out err st) -> Calls Tryz.prog 76 #[.pointer (some ⟨F, 0, none⟩), .agg #[.int .i64 at', .int .i64 mask], .string x, .string y] w1 fun e w' => e = .returned (.int .i64 0) ∧ TW W Q w' B F a d' room (calls + 1) fail (wkC ⟨#[108, 110]⟩ F at' mask iv out err st) ∧ Keeps (Gd W Q B) w1 w') := Lib.hid fun w1 k => by
  have := k.call (fun N hN => link_any hN hc0 hc1 (by omega) at' mask x y (by omega) (by omega))
  rw [hd2 k.fx.inv k.fx.clean] at this
  exact this
 have HWr := Lib.hid (fun w1 : World => wrong_ok (B := B) 1 w1)
 skip
 clear h hA t0 t1 hV hE hf hV2 hE2  hd2 hc0 hc1 hb hx hy hsz
 have n0 := HT.out.bx.cell 0 _ rfl
 have nl := HT.out.bx.lt
 go_enter Tryz.func34, Tryz.ntmps34
 go_upto_region 9 with (go_at_call 65; go_loud (refine HF.out.mono ?_); rintro e w1 ⟨rfl, rfl⟩)
 have c0 := HC0.out
 have c1 := HC1.out
 have HK1 := Lib.hid (Keeps.refl NoB w)
 clear HF n0 nl
 go_quiet (fail)
 generalize hwq : World.drewN w _ = wq
 have HTq := Lib.hid (HT.out.on (HK1.out.trans (show Keeps NoB w wq by rw [<- hwq]; exact (Keeps.refl _ _).drewN _)))
 have HKq := Lib.hid (HK1.out.trans (show Keeps NoB w wq by rw [<- hwq]; exact (Keeps.refl _ _).drewN _))
 clear c0 c1 hwq
 have HSt := Lib.hid (fun (w1 : World) (k : Keeps NoB wq w1) => (HTq.out.fx.on k).asks fun N hN => stat_any hN at' mask y true HSz.out)
 rw [HV.out, HE.out, hn] at HSt
 clear hn
 have f0 := HTq.out.bx.cell 1 _ rfl
 have b0 := HTq.out.bx.cell 2 _ rfl
 have b1 := HTq.out.bx.cell 3 _ rfl
 have fl := HTq.out.bx.lt
 go_upto_region 10 with fail
 go_cut [9, 10, 11] from 46 to 59 (fun x y z wx => ∃ G : Nat, ∃ wn : World, wn = wx ∧ wq.heap.size <= G ∧ x = .int .i64 n ∧ y = .pointer (some ⟨G, 0, none⟩) ∧ z = .int .i64 12 ∧ Bx wx G [.int .i64 ik, .int .i64 im, .int .i64 il, .int .i64 ih, .int .i64 iz] ∧ Keeps NoB wq wx)
 case first =>
  have kr := Keeps.refl NoB wq
  have krd := kr.drew
  have d0 := (HTq.out.on krd).bx.cell 1 _ rfl
  have d1 := (HTq.out.on krd).bx.cell 2 _ rfl
  have d2 := (HTq.out.on krd).bx.cell 3 _ rfl
  go_region_held3 (fun wz => wz.cell? ⟨B, 1, none⟩ = some (.pointer (some ⟨F, 0, none⟩)) ∧ wz.cell? ⟨B, 2, none⟩ = some (.int .i64 at') ∧ wz.cell? ⟨B, 3, none⟩ = some (.int .i64 mask) ∧ Keeps NoB wq wz) (refine ⟨?_, ?_, ?_, ?_⟩ <;> first | with_reducible assumption | (with_reducible refine (HTq.out.on ?_).bx.cell 1 _ rfl; (repeat (first | with_reducible assumption | (with_reducible exact Keeps.refl _ _) | (with_reducible refine Keeps.drew ?_) | (with_reducible refine Keeps.drewN ?_ _) | (with_reducible refine Keeps.alloc ?_ _) | (with_reducible refine Keeps.setCell ?_ (by first | exact Or.inl rfl | exact Or.inr (Nat.le_refl _) | exact Or.inr (by first | (simp; done) | (simp; omega))) _))); done) | (with_reducible refine (HTq.out.on ?_).bx.cell 2 _ rfl; (repeat (first | with_reducible assumption | (with_reducible exact Keeps.refl _ _) | (with_reducible refine Keeps.drew ?_) | (with_reducible refine Keeps.drewN ?_ _) | (with_reducible refine Keeps.alloc ?_ _) | (with_reducible refine Keeps.setCell ?_ (by first | exact Or.inl rfl | exact Or.inr (Nat.le_refl _) | exact Or.inr (by first | (simp; done) | (simp; omega))) _))); done) | (with_reducible refine (HTq.out.on ?_).bx.cell 3 _ rfl; (repeat (first | with_reducible assumption | (with_reducible exact Keeps.refl _ _) | (with_reducible refine Keeps.drew ?_) | (with_reducible refine Keeps.drewN ?_ _) | (with_reducible refine Keeps.alloc ?_ _) | (with_reducible refine Keeps.setCell ?_ (by first | exact Or.inl rfl | exact Or.inr (Nat.le_refl _) | exact Or.inr (by first | (simp; done) | (simp; omega))) _))); done) | ((repeat (first | with_reducible assumption | (with_reducible exact Keeps.refl _ _) | (with_reducible refine Keeps.drew ?_) | (with_reducible refine Keeps.drewN ?_ _) | (with_reducible refine Keeps.alloc ?_ _) | (with_reducible refine Keeps.setCell ?_ (by first | exact Or.inl rfl | exact Or.inr (Nat.le_refl _) | exact Or.inr (by first | (simp; done) | (simp; omega))) _))); done))
   (first | (go_at_call 12; refine (HSt.out _ (by (repeat (first | with_reducible assumption | (with_reducible exact Keeps.refl _ _) | (with_reducible refine Keeps.drew ?_) | (with_reducible refine Keeps.drewN ?_ _) | (with_reducible refine Keeps.alloc ?_ _) | (with_reducible refine Keeps.setCell ?_ (by first | exact Or.inl rfl | exact Or.inr (Nat.le_refl _) | exact Or.inr (by first | (simp; done) | (simp; omega))) _))))).mono ?_; rintro e w2 ⟨rfl, hk2⟩; have zky : Keeps NoB wq w2 := Keeps.trans (by (repeat (first | with_reducible assumption | (with_reducible exact Keeps.refl _ _) | (with_reducible refine Keeps.drew ?_) | (with_reducible refine Keeps.drewN ?_ _) | (with_reducible refine Keeps.alloc ?_ _) | (with_reducible refine Keeps.setCell ?_ (by first | exact Or.inl rfl | exact Or.inr (Nat.le_refl _) | exact Or.inr (by first | (simp; done) | (simp; omega))) _)))) hk2; have zs := zky.size; have z0 := (HTq.out.on zky).bx.cell 1 _ rfl; have z1 := (HTq.out.on zky).bx.cell 2 _ rfl; have z2 := (HTq.out.on zky).bx.cell 3 _ rfl; (try (have yb := Bx.newD hk2; have y0 := yb.cell 0 _ rfl; have y1 := yb.cell 1 _ rfl; have y2 := yb.cell 2 _ rfl; have y3 := yb.cell 3 _ rfl; have y4 := yb.cell 4 _ rfl; have yf := yb.fz))))
  all_goals (go_wp2_with fail; go_meet; refine ⟨_, _, rfl, ?_, rfl, rfl, rfl, ?_, ?_⟩)
  all_goals first
   | exact Nat.le_refl _
   | exact zs
   | (with_reducible exact Bx.new (Keeps.refl NoB _))
   | (exact ((((yb.put 0 _).put 1 _).put 2 _).put 3 _).put 4 _)
   | ((repeat (first | with_reducible assumption | (with_reducible exact Keeps.refl _ _) | (with_reducible refine Keeps.drew ?_) | (with_reducible refine Keeps.drewN ?_ _) | (with_reducible refine Keeps.alloc ?_ _) | (with_reducible refine Keeps.setCell ?_ (by first | exact Or.inl rfl | exact Or.inr (Nat.le_refl _) | exact Or.inr (by first | (simp; done) | (simp; omega))) _))); done)
   | skip
 case rest =>
  obtain ⟨HIB, w5, rfl, hG, rfl, rfl, rfl, HI, hk⟩ := hcut
  replace HI := Lib.hid HI
  have HK := Lib.hid hk
  have HG := Lib.hid hG
  replace HTq := Lib.hid (HTq.out.on hk)
  clear f0 b0 b1 fl HSt hG hk
  have i0 := HI.out.cell 0 _ rfl
  have n0 := HTq.out.bx.cell 0 _ rfl
  have nl := HTq.out.bx.lt
  go_upto_region 15 with (go_at_call 42; go_loud (refine (HI1.out _).mono ?_); rintro e w3 ⟨rfl, rfl⟩)
  clear i0 n0 nl
  have HSt := Lib.hid (fun (w1 : World) (k : Keeps NoB w5 w1) => (HTq.out.fx.on k).asks fun N hN => stat_any hN at' mask y false HSz.out)
  rw [HV2.out, HE2.out, hn2] at HSt
  clear hn2
  have f0 := HTq.out.bx.cell 1 _ rfl
  have b0 := HTq.out.bx.cell 2 _ rfl
  have b1 := HTq.out.bx.cell 3 _ rfl
  have fl := HTq.out.bx.lt
  go_cut [13, 14, 15] from 78 to 91 (fun x y z wx => ∃ G : Nat, ∃ wn : World, wn = wx ∧ w5.heap.size <= G ∧ x = .int .i64 n2 ∧ y = .pointer (some ⟨G, 0, none⟩) ∧ z = .int .i64 12 ∧ Bx wx G [.int .i64 kk, .int .i64 km, .int .i64 kl, .int .i64 kh, .int .i64 kz] ∧ Keeps NoB w5 wx)
  case first =>
   have kr := Keeps.refl NoB w5
   have krd := kr.drew
   have d0 := (HTq.out.on krd).bx.cell 1 _ rfl
   have d1 := (HTq.out.on krd).bx.cell 2 _ rfl
   have d2 := (HTq.out.on krd).bx.cell 3 _ rfl
   go_region_held3 (fun wz => wz.cell? ⟨B, 1, none⟩ = some (.pointer (some ⟨F, 0, none⟩)) ∧ wz.cell? ⟨B, 2, none⟩ = some (.int .i64 at') ∧ wz.cell? ⟨B, 3, none⟩ = some (.int .i64 mask) ∧ Keeps NoB w5 wz) (refine ⟨?_, ?_, ?_, ?_⟩ <;> first | with_reducible assumption | (with_reducible refine (HTq.out.on ?_).bx.cell 1 _ rfl; (repeat (first | with_reducible assumption | (with_reducible exact Keeps.refl _ _) | (with_reducible refine Keeps.drew ?_) | (with_reducible refine Keeps.drewN ?_ _) | (with_reducible refine Keeps.alloc ?_ _) | (with_reducible refine Keeps.setCell ?_ (by first | exact Or.inl rfl | exact Or.inr (Nat.le_refl _) | exact Or.inr (by first | (simp; done) | (simp; omega))) _))); done) | (with_reducible refine (HTq.out.on ?_).bx.cell 2 _ rfl; (repeat (first | with_reducible assumption | (with_reducible exact Keeps.refl _ _) | (with_reducible refine Keeps.drew ?_) | (with_reducible refine Keeps.drewN ?_ _) | (with_reducible refine Keeps.alloc ?_ _) | (with_reducible refine Keeps.setCell ?_ (by first | exact Or.inl rfl | exact Or.inr (Nat.le_refl _) | exact Or.inr (by first | (simp; done) | (simp; omega))) _))); done) | (with_reducible refine (HTq.out.on ?_).bx.cell 3 _ rfl; (repeat (first | with_reducible assumption | (with_reducible exact Keeps.refl _ _) | (with_reducible refine Keeps.drew ?_) | (with_reducible refine Keeps.drewN ?_ _) | (with_reducible refine Keeps.alloc ?_ _) | (with_reducible refine Keeps.setCell ?_ (by first | exact Or.inl rfl | exact Or.inr (Nat.le_refl _) | exact Or.inr (by first | (simp; done) | (simp; omega))) _))); done) | ((repeat (first | with_reducible assumption | (with_reducible exact Keeps.refl _ _) | (with_reducible refine Keeps.drew ?_) | (with_reducible refine Keeps.drewN ?_ _) | (with_reducible refine Keeps.alloc ?_ _) | (with_reducible refine Keeps.setCell ?_ (by first | exact Or.inl rfl | exact Or.inr (Nat.le_refl _) | exact Or.inr (by first | (simp; done) | (simp; omega))) _))); done))
    (first | (go_at_call 12; refine (HSt.out _ (by (repeat (first | with_reducible assumption | (with_reducible exact Keeps.refl _ _) | (with_reducible refine Keeps.drew ?_) | (with_reducible refine Keeps.drewN ?_ _) | (with_reducible refine Keeps.alloc ?_ _) | (with_reducible refine Keeps.setCell ?_ (by first | exact Or.inl rfl | exact Or.inr (Nat.le_refl _) | exact Or.inr (by first | (simp; done) | (simp; omega))) _))))).mono ?_; rintro e w2 ⟨rfl, hk2⟩; have zky : Keeps NoB w5 w2 := Keeps.trans (by (repeat (first | with_reducible assumption | (with_reducible exact Keeps.refl _ _) | (with_reducible refine Keeps.drew ?_) | (with_reducible refine Keeps.drewN ?_ _) | (with_reducible refine Keeps.alloc ?_ _) | (with_reducible refine Keeps.setCell ?_ (by first | exact Or.inl rfl | exact Or.inr (Nat.le_refl _) | exact Or.inr (by first | (simp; done) | (simp; omega))) _)))) hk2; have zs := zky.size; have z0 := (HTq.out.on zky).bx.cell 1 _ rfl; have z1 := (HTq.out.on zky).bx.cell 2 _ rfl; have z2 := (HTq.out.on zky).bx.cell 3 _ rfl; (try (have yb := Bx.newD hk2; have y0 := yb.cell 0 _ rfl; have y1 := yb.cell 1 _ rfl; have y2 := yb.cell 2 _ rfl; have y3 := yb.cell 3 _ rfl; have y4 := yb.cell 4 _ rfl; have yf := yb.fz))))
   all_goals (go_wp2_with fail; go_meet; refine ⟨_, _, rfl, ?_, rfl, rfl, rfl, ?_, ?_⟩)
   all_goals first
    | exact Nat.le_refl _
    | exact zs
    | (with_reducible exact Bx.new (Keeps.refl NoB _))
    | (exact ((((yb.put 0 _).put 1 _).put 2 _).put 3 _).put 4 _)
    | ((repeat (first | with_reducible assumption | (with_reducible exact Keeps.refl _ _) | (with_reducible refine Keeps.drew ?_) | (with_reducible refine Keeps.drewN ?_ _) | (with_reducible refine Keeps.alloc ?_ _) | (with_reducible refine Keeps.setCell ?_ (by first | exact Or.inl rfl | exact Or.inr (Nat.le_refl _) | exact Or.inr (by first | (simp; done) | (simp; omega))) _))); done)
    | skip
  case rest =>
   obtain ⟨HIB2, wy, rfl, hG2, rfl, rfl, rfl, HI2, hk2⟩ := hcut
   replace HI2 := Lib.hid HI2
   have HK2 := Lib.hid hk2
   have HG2 := Lib.hid hG2
   replace HTq := Lib.hid (HTq.out.on hk2)
   clear f0 b0 b1 fl HSt hG2 hk2
   go_upto_region 20 with (go_at_call 42; go_loud (refine (HIs.out _).mono ?_); rintro e w3 ⟨rfl, rfl⟩)
   have f0 := HTq.out.bx.cell 1 _ rfl
   have b0 := HTq.out.bx.cell 2 _ rfl
   have b1 := HTq.out.bx.cell 3 _ rfl
   have fl := HTq.out.bx.lt
   have krd := (Keeps.refl NoB wy).drew
   have d0 := (HTq.out.on krd).bx.cell 1 _ rfl
   have d1 := (HTq.out.on krd).bx.cell 2 _ rfl
   have d2 := (HTq.out.on krd).bx.cell 3 _ rfl
   go_region_held3 (fun wz => wz.cell? ⟨B, 1, none⟩ = some (.pointer (some ⟨F, 0, none⟩)) ∧ wz.cell? ⟨B, 2, none⟩ = some (.int .i64 at') ∧ wz.cell? ⟨B, 3, none⟩ = some (.int .i64 mask)) (refine ⟨?_, ?_, ?_⟩ <;> first | with_reducible assumption)
    (first | (go_at_call 76; refine (HM.out _ (HTq.out.on (by (repeat (first | with_reducible assumption | (with_reducible exact Keeps.refl _ _) | (with_reducible refine Keeps.drew ?_) | (with_reducible refine Keeps.drewN ?_ _) | (with_reducible refine Keeps.alloc ?_ _) | (with_reducible refine Keeps.setCell ?_ (by first | exact Or.inl rfl | exact Or.inr (Nat.le_refl _) | exact Or.inr (by first | (simp; done) | (simp; omega))) _)))))).mono ?_; rintro e w6 ⟨rfl, ht6, hk6⟩; have hl6 : Keeps (Lw W Q) wy w6 := Keeps.trans (Keeps.of_none (by (repeat (first | with_reducible assumption | (with_reducible exact Keeps.refl _ _) | (with_reducible refine Keeps.drew ?_) | (with_reducible refine Keeps.drewN ?_ _) | (with_reducible refine Keeps.alloc ?_ _) | (with_reducible refine Keeps.setCell ?_ (by first | exact Or.inl rfl | exact Or.inr (Nat.le_refl _) | exact Or.inr (by first | (simp; done) | (simp; omega))) _))))) (gd_low hk6); have z0 := ht6.bx.cell 1 _ rfl; have z1 := ht6.bx.cell 2 _ rfl; have z2 := ht6.bx.cell 3 _ rfl) | (go_at_call 30; refine (HWr.out _).mono ?_; rintro e w7 ⟨rfl, rfl⟩))
   all_goals (go_wp2_with fail; go_end0; exact ⟨rfl, ht6, ((HKq.out.trans HK.out).trans HK2.out).of_none.trans hl6⟩)
end
theorem lib_l (w : World) : Calls Tryz.prog 134 #[.string ⟨#[108]⟩, .int .u8 47] w fun e w' => e = .returned (.int .i64 (-1)) ∧ w = w' := by
 go_enter Tryz.func134, Tryz.ntmps134
 go_wp2
 go_loop [5] (fun v => v = .int .i64 0 ∨ v = .int .i64 (-1)) (fun v => (intOf v + 1).toNat)
 case atStart => exact .inl rfl
 case round =>
  rcases hrel with rfl | rfl
  ·go_wp2
   go_round
   case rel => exact .inr (by go_num)
   case measure => simp [intOf]
  ·go_wp2
   go_ret
   exact ⟨rfl, rfl⟩
theorem last_l (w : World) : Calls Tryz.prog 106 #[.string ⟨#[108]⟩, .int .u8 47] w fun e w' => e = .returned (.int .i64 (-1)) ∧ w = w' := by
 have H := Lib.hid (lib_l w)
 go_enter Tryz.func106, Tryz.ntmps106
 go_wp2_with (go_at_call 134; go_loud (refine H.out.mono ?_); rintro e w1 ⟨rfl, rfl⟩)
 go_ret
 exact ⟨rfl, rfl⟩
theorem bare_l (w : World) : Calls Tryz.prog 105 #[.string ⟨#[108]⟩] w fun e w' => e = .returned (.string ⟨#[108]⟩) ∧ w = w' := by
 have H := Lib.hid (trim_same ⟨#[108]⟩ w (by decide) (by decide) (by decide))
 go_enter Tryz.func105, Tryz.ntmps105
 go_wp2_with (go_at_call 100; go_loud (refine H.out.mono ?_); rintro e w1 ⟨rfl, rfl⟩)
 go_ret
 exact ⟨rfl, rfl⟩
theorem base_l (w : World) : Calls Tryz.prog 72 #[.string ⟨#[108]⟩] w fun e w' => e = .returned (.string ⟨#[108]⟩) ∧ w = w' := by
 have HB := Lib.hid (bare_l w)
 have HL := Lib.hid (last_l w)
 go_enter Tryz.func72, Tryz.ntmps72
 go_wp2_with (first | (go_at_call 105; go_loud (refine HB.out.mono ?_); rintro e w1 ⟨rfl, rfl⟩) | (go_at_call 106; go_loud (refine HL.out.mono ?_); rintro e w2 ⟨rfl, rfl⟩))
 go_ret
 exact ⟨rfl, rfl⟩
section
variable {W w : World} {Q : Nat -> Prop} {B F a : Nat} {d d' : Nds} {room calls fail at' mask st : Int} {name out err : ByteArray} {iv : Value}
theorem pair_cpd {S : Nat -> Prop} {p : Option Addr} {c : Nat} {x y : ByteArray} (h : TW W Q w B F a d room calls fail (wkC ⟨#[99, 112]⟩ F at' mask iv out err st)) (hA : SlAt encStr S w p c [x, y]) (hf : noFlag x = true) (hx : x.size <= 1000) (hy : y.size <= 1000) (hbs : ∀ w1 : World, Calls Tryz.prog 72 #[.string x] w1 fun e w' => e = .returned (.string x) ∧ w1 = w') 
 {n im il ih iz : Int} (hn : (thrR d at' y true).1.node = n) (hV : statV d (thrR d at' y true) = .agg #[.int .i64 2, .int .i64 im, .int .i64 il, .int .i64 ih, .int .i64 iz]) (hE : statE d (thrR d at' y true) = 0)
 {calls' : Int} (hC : ∀ w1, TW W Q w1 B F a d room calls fail (wkC ⟨#[99, 112]⟩ F at' mask iv out err st) -> Calls Tryz.prog 74 #[.pointer (some ⟨B, 0, none⟩), .string x, .string (joinB y x)] w1 fun e w' => e = .returned (.int .i64 0) ∧ TW W Q w' B F a d' room calls' fail (wkC ⟨#[99, 112]⟩ F at' mask iv out err st) ∧ Keeps (Lw W Q) w1 w') :
 Calls Tryz.prog 34 #[.pointer (some ⟨B, 0, none⟩), .slice p 2 c] w fun e w' => e = .returned (.tuple #[]) ∧ TW W Q w' B F a d' room calls' fail (wkC ⟨#[99, 112]⟩ F at' mask iv out err st) ∧ Keeps (Lw W Q) w w' := by
 have HT := Lib.hid h
 have HV := Lib.hid hV
 have HE := Lib.hid hE
 have hsz : y.size <= 4294967280 := by omega
 have HSz := Lib.hid hsz
 have HF := Lib.hid (flags_none hA ⟨#[]⟩ (fun z hz => by cases hz; exact hf))
 simp only [List.length_cons, List.length_nil, Nat.zero_add] at HF
 obtain ⟨g, o, rfl, _, hgl, t0⟩ := hA.str (i := 0) (x := x) rfl
 obtain ⟨g1, o1, e1, _, _, t1⟩ := hA.str (i := 1) (x := y) rfl
 cases e1
 have hcp := hA.cap
 have hmx := hA.max
 unfold maxLen at hmx
 simp only [List.length_cons, List.length_nil, Nat.zero_add] at hcp
 have HC0 : Hid (w.cell? ⟨g, o, none⟩ = some (.string x)) := t0
 have HC1 : Hid (w.cell? ⟨g, o + 1, none⟩ = some (.string y)) := t1
 have HI1 := Lib.hid (fun wx => ib_any ⟨#[]⟩ 102 wx)
 rw [show bIdx (⟨#[]⟩ : ByteArray) ((102 : Int)).toNat.toUInt8 = -1 by decide] at HI1
 have HBs := Lib.hid hbs
 have HJn := Lib.hid (fun w1 : World => join_any y x w1 (by omega) (by omega))
 obtain ⟨z, hz⟩ : ∃ z, joinB y x = z := ⟨_, rfl⟩
 rw [hz] at HJn hC
 have HM := Lib.hid hC
 have HWr := Lib.hid (fun w1 : World => wrong_ok (B := B) 1 w1)
 skip
 clear h hA t0 t1 hV hE hf  hbs hz hC hx hy hsz
 have n0 := HT.out.bx.cell 0 _ rfl
 have nl := HT.out.bx.lt
 go_enter Tryz.func34, Tryz.ntmps34
 go_upto_region 9 with (go_at_call 65; go_loud (refine HF.out.mono ?_); rintro e w1 ⟨rfl, rfl⟩)
 have c0 := HC0.out
 have c1 := HC1.out
 have HK1 := Lib.hid (Keeps.refl NoB w)
 clear HF n0 nl
 go_quiet (fail)
 generalize hwq : World.drewN w _ = wq
 have HTq := Lib.hid (HT.out.on (HK1.out.trans (show Keeps NoB w wq by rw [<- hwq]; exact (Keeps.refl _ _).drewN _)))
 have HKq := Lib.hid (HK1.out.trans (show Keeps NoB w wq by rw [<- hwq]; exact (Keeps.refl _ _).drewN _))
 clear c0 c1 hwq
 have HSt := Lib.hid (fun (w1 : World) (k : Keeps NoB wq w1) => (HTq.out.fx.on k).asks fun N hN => stat_any hN at' mask y true HSz.out)
 rw [HV.out, HE.out, hn] at HSt
 clear hn
 have f0 := HTq.out.bx.cell 1 _ rfl
 have b0 := HTq.out.bx.cell 2 _ rfl
 have b1 := HTq.out.bx.cell 3 _ rfl
 have fl := HTq.out.bx.lt
 go_upto_region 10 with fail
 go_cut [9, 10, 11] from 46 to 59 (fun x y z wx => ∃ G : Nat, ∃ wn : World, wn = wx ∧ wq.heap.size <= G ∧ x = .int .i64 n ∧ y = .pointer (some ⟨G, 0, none⟩) ∧ z = .int .i64 0 ∧ Bx wx G [.int .i64 2, .int .i64 im, .int .i64 il, .int .i64 ih, .int .i64 iz] ∧ Keeps NoB wq wx)
 case first =>
  have kr := Keeps.refl NoB wq
  have krd := kr.drew
  have d0 := (HTq.out.on krd).bx.cell 1 _ rfl
  have d1 := (HTq.out.on krd).bx.cell 2 _ rfl
  have d2 := (HTq.out.on krd).bx.cell 3 _ rfl
  go_region_held3 (fun wz => wz.cell? ⟨B, 1, none⟩ = some (.pointer (some ⟨F, 0, none⟩)) ∧ wz.cell? ⟨B, 2, none⟩ = some (.int .i64 at') ∧ wz.cell? ⟨B, 3, none⟩ = some (.int .i64 mask) ∧ Keeps NoB wq wz) (refine ⟨?_, ?_, ?_, ?_⟩ <;> first | with_reducible assumption | (with_reducible refine (HTq.out.on ?_).bx.cell 1 _ rfl; (repeat (first | with_reducible assumption | (with_reducible exact Keeps.refl _ _) | (with_reducible refine Keeps.drew ?_) | (with_reducible refine Keeps.drewN ?_ _) | (with_reducible refine Keeps.alloc ?_ _) | (with_reducible refine Keeps.setCell ?_ (by first | exact Or.inl rfl | exact Or.inr (Nat.le_refl _) | exact Or.inr (by first | (simp; done) | (simp; omega))) _))); done) | (with_reducible refine (HTq.out.on ?_).bx.cell 2 _ rfl; (repeat (first | with_reducible assumption | (with_reducible exact Keeps.refl _ _) | (with_reducible refine Keeps.drew ?_) | (with_reducible refine Keeps.drewN ?_ _) | (with_reducible refine Keeps.alloc ?_ _) | (with_reducible refine Keeps.setCell ?_ (by first | exact Or.inl rfl | exact Or.inr (Nat.le_refl _) | exact Or.inr (by first | (simp; done) | (simp; omega))) _))); done) | (with_reducible refine (HTq.out.on ?_).bx.cell 3 _ rfl; (repeat (first | with_reducible assumption | (with_reducible exact Keeps.refl _ _) | (with_reducible refine Keeps.drew ?_) | (with_reducible refine Keeps.drewN ?_ _) | (with_reducible refine Keeps.alloc ?_ _) | (with_reducible refine Keeps.setCell ?_ (by first | exact Or.inl rfl | exact Or.inr (Nat.le_refl _) | exact Or.inr (by first | (simp; done) | (simp; omega))) _))); done) | ((repeat (first | with_reducible assumption | (with_reducible exact Keeps.refl _ _) | (with_reducible refine Keeps.drew ?_) | (with_reducible refine Keeps.drewN ?_ _) | (with_reducible refine Keeps.alloc ?_ _) | (with_reducible refine Keeps.setCell ?_ (by first | exact Or.inl rfl | exact Or.inr (Nat.le_refl _) | exact Or.inr (by first | (simp; done) | (simp; omega))) _))); done))
   (first | (go_at_call 12; refine (HSt.out _ (by (repeat (first | with_reducible assumption | (with_reducible exact Keeps.refl _ _) | (with_reducible refine Keeps.drew ?_) | (with_reducible refine Keeps.drewN ?_ _) | (with_reducible refine Keeps.alloc ?_ _) | (with_reducible refine Keeps.setCell ?_ (by first | exact Or.inl rfl | exact Or.inr (Nat.le_refl _) | exact Or.inr (by first | (simp; done) | (simp; omega))) _))))).mono ?_; rintro e w2 ⟨rfl, hk2⟩; have zky : Keeps NoB wq w2 := Keeps.trans (by (repeat (first | with_reducible assumption | (with_reducible exact Keeps.refl _ _) | (with_reducible refine Keeps.drew ?_) | (with_reducible refine Keeps.drewN ?_ _) | (with_reducible refine Keeps.alloc ?_ _) | (with_reducible refine Keeps.setCell ?_ (by first | exact Or.inl rfl | exact Or.inr (Nat.le_refl _) | exact Or.inr (by first | (simp; done) | (simp; omega))) _)))) hk2; have zs := zky.size; have z0 := (HTq.out.on zky).bx.cell 1 _ rfl; have z1 := (HTq.out.on zky).bx.cell 2 _ rfl; have z2 := (HTq.out.on zky).bx.cell 3 _ rfl; (try (have yb := Bx.newD hk2; have y0 := yb.cell 0 _ rfl; have y1 := yb.cell 1 _ rfl; have y2 := yb.cell 2 _ rfl; have y3 := yb.cell 3 _ rfl; have y4 := yb.cell 4 _ rfl; have yf := yb.fz))))
  all_goals (go_wp2_with fail; go_meet; refine ⟨_, _, rfl, ?_, rfl, rfl, rfl, ?_, ?_⟩)
  all_goals first
   | exact Nat.le_refl _
   | exact zs
   | (with_reducible exact Bx.new (Keeps.refl NoB _))
   | (exact ((((yb.put 0 _).put 1 _).put 2 _).put 3 _).put 4 _)
   | ((repeat (first | with_reducible assumption | (with_reducible exact Keeps.refl _ _) | (with_reducible refine Keeps.drew ?_) | (with_reducible refine Keeps.drewN ?_ _) | (with_reducible refine Keeps.alloc ?_ _) | (with_reducible refine Keeps.setCell ?_ (by first | exact Or.inl rfl | exact Or.inr (Nat.le_refl _) | exact Or.inr (by first | (simp; done) | (simp; omega))) _))); done)
   | skip
 case rest =>
  obtain ⟨HIB, w5, rfl, hG, rfl, rfl, rfl, HI, hk⟩ := hcut
  replace HI := Lib.hid HI
  have HK := Lib.hid hk
  have HG := Lib.hid hG
  replace HTq := Lib.hid (HTq.out.on hk)
  clear f0 b0 b1 fl HSt hG hk
  have i0 := HI.out.cell 0 _ rfl
  have n0 := HTq.out.bx.cell 0 _ rfl
  have nl := HTq.out.bx.lt
  go_wp2_with (first | (first | (go_at_call 42; go_loud (refine (HI1.out _).mono ?_); rintro e w3 ⟨rfl, rfl⟩) | (go_at_call 72; go_loud (refine (HBs.out _).mono ?_); rintro e w4 ⟨rfl, rfl⟩) | (go_at_call 71; go_loud (refine (HJn.out _).mono ?_); rintro e w5 ⟨rfl, hw5⟩; obtain rfl : _ = w5 := hw5.symm)) | (go_at_call 74; go_loud (refine (HM.out _ HTq.out).mono ?_); rintro e w6 ⟨rfl, ht6, hk6⟩) | (go_at_call 30; go_loud (refine (HWr.out _).mono ?_); rintro e w7 ⟨rfl, rfl⟩))
  go_end0
  exact ⟨rfl, ht6, (HKq.out.trans HK.out).of_none.trans hk6⟩
end
end Go.Proofs.YtimidmogcbapnaaGreatDoor
