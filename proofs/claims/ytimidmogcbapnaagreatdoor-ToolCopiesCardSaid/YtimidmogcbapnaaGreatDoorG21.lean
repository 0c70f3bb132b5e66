/-
  Layer 23: test of a mode's bits. (Printed by gentool.py.)
-/
import Derived.Test.YtimidmogcbapnaaGreatDoorG20
import Derived.StillTailTactics
import Derived.Test.YtimidmogcbapnaaGreatDoorG16
import Derived.Test.YtimidmogcbapnaaGreatDoorG01

set_option linter.unusedSimpArgs false
set_option linter.unusedVariables false
set_option maxRecDepth 100000
set_option maxHeartbeats 8000000
namespace Go.Proofs.YtimidmogcbapnaaGreatDoor
open Go Go.RowKit
theorem status_any (b : Bool) (w : World) : Calls Tryz.prog 58 #[.bool b] w fun e w' => e = .returned (.int .i64 (if b then 0 else 1)) ∧ w = w' := by
 cases b
 all_goals
  go_enter Tryz.func58, Tryz.ntmps58
  go_wp2
  go_ret
  exact ⟨rfl, rfl⟩
section
variable {W w : World} {Q : Nat -> Prop} {B F a : Nat} {d d' : Nds} {room calls fail at' mask st : Int} {name out err : ByteArray} {iv : Value}
theorem one_x {s : ByteArray} (h : TW W Q w B F a d room calls fail (wkC name F at' mask iv out err st)) (hsz : s.size <= 4294967280) {m : Nat} (hm : m <= 4095) {n ik il ih iz : Int} (hn : (thrR d at' s true).1.node = n)
 (hV : statV d (thrR d at' s true) = .agg #[.int .i64 ik, .int .i64 (m : Int), .int .i64 il, .int .i64 ih, .int .i64 iz]) (hE : statE d (thrR d at' s true) = 0) :
 Calls Tryz.prog 62 #[.pointer (some ⟨B, 0, none⟩), .string ⟨#[45, 120]⟩, .string s] w fun e w' => e = .returned (.int .i64 (if bt m 6 then 0 else 1)) ∧ Keeps NoB w w' := by
 have HT := Lib.hid h
 have HV := Lib.hid hV
 have HE := Lib.hid hE
 have HSz := Lib.hid hsz
 have hb := bit_and2 m 6 hm (by decide)
 rw [show ((2 ^ 6 : Nat) : Int) = 64 from rfl] at hb
 have hbn : (bits BinOp.and IntKind.i64 (m : Int) 64 != 0) = bt m 6 := by rw [bne, hb, Bool.not_not]
 obtain ⟨bb, hbb⟩ : ∃ bb, bt m 6 = bb := ⟨_, rfl⟩
 rw [hbb] at hbn ⊢
 have HB := Lib.hid hbn
 have HSt1 := Lib.hid (fun w1 : World => status_any bb w1)
 clear h hV hE hb hbn hbb
 go_enter Tryz.func62, Tryz.ntmps62
 have HSt := Lib.hid (fun (w1 : World) (k : Keeps NoB w w1) => (HT.out.fx.on k).asks fun N hN => stat_any hN at' mask s true HSz.out)
 rw [HV.out, HE.out, hn] at HSt
 clear hn
 have f0 := HT.out.bx.cell 1 _ rfl
 have b0 := HT.out.bx.cell 2 _ rfl
 have b1 := HT.out.bx.cell 3 _ rfl
 have fl := HT.out.bx.lt
 go_upto_region 6 with fail
 go_cut [7, 8, 9] from 22 to 41 (fun x y z wx => ∃ G : Nat, w.heap.size <= G ∧ x = .int .i64 n ∧ y = .pointer (some ⟨G, 0, none⟩) ∧ z = .int .i64 0 ∧ Bx wx G [.int .i64 ik, .int .i64 (m : Int), .int .i64 il, .int .i64 ih, .int .i64 iz] ∧ Keeps NoB w wx)
 case first =>
  have kr := Keeps.refl NoB w
  have krd := kr.drew
  have d0 := (HT.out.on krd).bx.cell 1 _ rfl
  have d1 := (HT.out.on krd).bx.cell 2 _ rfl
  have d2 := (HT.out.on krd).bx.cell 3 _ rfl
  go_region_held3 (fun wz => wz.cell? ⟨B, 1, none⟩ = some (.pointer (some ⟨F, 0, none⟩)) ∧ wz.cell? ⟨B, 2, none⟩ = some (.int .i64 at') ∧ wz.cell? ⟨B, 3, none⟩ = some (.int .i64 mask) ∧ Keeps NoB w wz) (refine ⟨?_, ?_, ?_, ?_⟩ <;> first | with_reducible assumption | (with_reducible refine (HT.out.on ?_).bx.cell 1 _ rfl; (repeat (first | with_reducible assumption | (with_reducible exact Keeps.refl _ _) | (with_reducible refine Keeps.drew ?_) | (with_reducible refine Keeps.drewN ?_ _) | (with_reducible refine Keeps.alloc ?_ _) | (with_reducible refine Keeps.setCell ?_ (by first | exact Or.inl rfl | exact Or.inr (Nat.le_refl _) | exact Or.inr (by first | (simp; done) | (simp; omega))) _))); done) | (with_reducible refine (HT.out.on ?_).bx.cell 2 _ rfl; (repeat (first | with_reducible assumption | (with_reducible exact Keeps.refl _ _) | (with_reducible refine Keeps.drew ?_) | (with_reducible refine Keeps.drewN ?_ _) | (with_reducible refine Keeps.alloc ?_ _) | (with_reducible refine Keeps.setCell ?_ (by first | exact Or.inl rfl | exact Or.inr (Nat.le_refl _) | exact Or.inr (by first | (simp; done) | (simp; omega))) _))); done) | (with_reducible refine (HT.out.on ?_).bx.cell 3 _ rfl; (repeat (first | with_reducible assumption | (with_reducible exact Keeps.refl _ _) | (with_reducible refine Keeps.drew ?_) | (with_reducible refine Keeps.drewN ?_ _) | (with_reducible refine Keeps.alloc ?_ _) | (with_reducible refine Keeps.setCell ?_ (by first | exact Or.inl rfl | exact Or.inr (Nat.le_refl _) | exact Or.inr (by first | (simp; done) | (simp; omega))) _))); done) | ((repeat (first | with_reducible assumption | (with_reducible exact Keeps.refl _ _) | (with_reducible refine Keeps.drew ?_) | (with_reducible refine Keeps.drewN ?_ _) | (with_reducible refine Keeps.alloc ?_ _) | (with_reducible refine Keeps.setCell ?_ (by first | exact Or.inl rfl | exact Or.inr (Nat.le_refl _) | exact Or.inr (by first | (simp; done) | (simp; omega))) _))); done))
   (first | (go_at_call 12; refine (HSt.out _ (by (repeat (first | with_reducible assumption | (with_reducible exact Keeps.refl _ _) | (with_reducible refine Keeps.drew ?_) | (with_reducible refine Keeps.drewN ?_ _) | (with_reducible refine Keeps.alloc ?_ _) | (with_reducible refine Keeps.setCell ?_ (by first | exact Or.inl rfl | exact Or.inr (Nat.le_refl _) | exact Or.inr (by first | (simp; done) | (simp; omega))) _))))).mono ?_; rintro e w2 ⟨rfl, hk2⟩; have zky : Keeps NoB w w2 := Keeps.trans (by (repeat (first | with_reducible assumption | (with_reducible exact Keeps.refl _ _) | (with_reducible refine Keeps.drew ?_) | (with_reducible refine Keeps.drewN ?_ _) | (with_reducible refine Keeps.alloc ?_ _) | (with_reducible refine Keeps.setCell ?_ (by first | exact Or.inl rfl | exact Or.inr (Nat.le_refl _) | exact Or.inr (by first | (simp; done) | (simp; omega))) _)))) hk2; have zs := zky.size; have z0 := (HT.out.on zky).bx.cell 1 _ rfl; have z1 := (HT.out.on zky).bx.cell 2 _ rfl; have z2 := (HT.out.on zky).bx.cell 3 _ rfl; (try (have yb := Bx.newD hk2; have y0 := yb.cell 0 _ rfl; have y1 := yb.cell 1 _ rfl; have y2 := yb.cell 2 _ rfl; have y3 := yb.cell 3 _ rfl; have y4 := yb.cell 4 _ rfl; have yf := yb.fz))))
  all_goals (go_wp2_with fail; go_meet; refine ⟨_, ?_, rfl, rfl, rfl, ?_, ?_⟩)
  all_goals first
   | exact Nat.le_refl _
   | exact zs
   | (with_reducible exact Bx.new (Keeps.refl NoB _))
   | (exact ((((yb.put 0 _).put 1 _).put 2 _).put 3 _).put 4 _)
   | ((repeat (first | with_reducible assumption | (with_reducible exact Keeps.refl _ _) | (with_reducible refine Keeps.drew ?_) | (with_reducible refine Keeps.drewN ?_ _) | (with_reducible refine Keeps.alloc ?_ _) | (with_reducible refine Keeps.setCell ?_ (by first | exact Or.inl rfl | exact Or.inr (Nat.le_refl _) | exact Or.inr (by first | (simp; done) | (simp; omega))) _))); done)
   | skip
 case rest =>
  obtain ⟨HIB, hG, rfl, rfl, rfl, HI, hk⟩ := hcut
  replace HI := Lib.hid HI
  have HK := Lib.hid hk
  have HG := Lib.hid hG
  replace HT := Lib.hid (HT.out.on hk)
  clear f0 b0 b1 fl HSt hG hk
  have i1 := HI.out.cell 1 _ rfl
  have hbn := HB.out
  cases bb
  all_goals
   go_wp2_with (go_at_call 58; go_loud (refine (HSt1.out _).mono ?_); rintro e w5 ⟨rfl, rfl⟩)
   go_ret
   exact ⟨rfl, HK.out⟩
theorem one_w {s : ByteArray} (h : TW W Q w B F a d room calls fail (wkC name F at' mask iv out err st)) (hsz : s.size <= 4294967280) {m : Nat} (hm : m <= 4095) {n ik il ih iz : Int} (hn : (thrR d at' s true).1.node = n)
 (hV : statV d (thrR d at' s true) = .agg #[.int .i64 ik, .int .i64 (m : Int), .int .i64 il, .int .i64 ih, .int .i64 iz]) (hE : statE d (thrR d at' s true) = 0) :
 Calls Tryz.prog 62 #[.pointer (some ⟨B, 0, none⟩), .string ⟨#[45, 119]⟩, .string s] w fun e w' => e = .returned (.int .i64 (if bt m 7 then 0 else 1)) ∧ Keeps NoB w w' := by
 have HT := Lib.hid h
 have HV := Lib.hid hV
 have HE := Lib.hid hE
 have HSz := Lib.hid hsz
 have hb := bit_and2 m 7 hm (by decide)
 rw [show ((2 ^ 7 : Nat) : Int) = 128 from rfl] at hb
 have hbn : (bits BinOp.and IntKind.i64 (m : Int) 128 != 0) = bt m 7 := by rw [bne, hb, Bool.not_not]
 obtain ⟨bb, hbb⟩ : ∃ bb, bt m 7 = bb := ⟨_, rfl⟩
 rw [hbb] at hbn ⊢
 have HB := Lib.hid hbn
 have HSt1 := Lib.hid (fun w1 : World => status_any bb w1)
 clear h hV hE hb hbn hbb
 go_enter Tryz.func62, Tryz.ntmps62
 have HSt := Lib.hid (fun (w1 : World) (k : Keeps NoB w w1) => (HT.out.fx.on k).asks fun N hN => stat_any hN at' mask s true HSz.out)
 rw [HV.out, HE.out, hn] at HSt
 clear hn
 have f0 := HT.out.bx.cell 1 _ rfl
 have b0 := HT.out.bx.cell 2 _ rfl
 have b1 := HT.out.bx.cell 3 _ rfl
 have fl := HT.out.bx.lt
 go_upto_region 6 with fail
 go_cut [7, 8, 9] from 22 to 41 (fun x y z wx => ∃ G : Nat, w.heap.size <= G ∧ x = .int .i64 n ∧ y = .pointer (some ⟨G, 0, none⟩) ∧ z = .int .i64 0 ∧ Bx wx G [.int .i64 ik, .int .i64 (m : Int), .int .i64 il, .int .i64 ih, .int .i64 iz] ∧ Keeps NoB w wx)
 case first =>
  have kr := Keeps.refl NoB w
  have krd := kr.drew
  have d0 := (HT.out.on krd).bx.cell 1 _ rfl
  have d1 := (HT.out.on krd).bx.cell 2 _ rfl
  have d2 := (HT.out.on krd).bx.cell 3 _ rfl
  go_region_held3 (fun wz => wz.cell? ⟨B, 1, none⟩ = some (.pointer (some ⟨F, 0, none⟩)) ∧ wz.cell? ⟨B, 2, none⟩ = some (.int .i64 at') ∧ wz.cell? ⟨B, 3, none⟩ = some (.int .i64 mask) ∧ Keeps NoB w wz) (refine ⟨?_, ?_, ?_, ?_⟩ <;> first | with_reducible assumption | (with_reducible refine (HT.out.on ?_).bx.cell 1 _ rfl; (repeat (first | with_reducible assumption | (with_reducible exact Keeps.refl _ _) | (with_reducible refine Keeps.drew ?_) | (with_reducible refine Keeps.drewN ?_ _) | (with_reducible refine Keeps.alloc ?_ _) | (with_reducible refine Keeps.setCell ?_ (by first | exact Or.inl rfl | exact Or.inr (Nat.le_refl _) | exact Or.inr (by first | (simp; done) | (simp; omega))) _))); done) | (with_reducible refine (HT.out.on ?_).bx.cell 2 _ rfl; (repeat (first | with_reducible assumption | (with_reducible exact Keeps.refl _ _) | (with_reducible refine Keeps.drew ?_) | (with_reducible refine Keeps.drewN ?_ _) | (with_reducible refine Keeps.alloc ?_ _) | (with_reducible refine Keeps.setCell ?_ (by first | exact Or.inl rfl | exact Or.inr (Nat.le_refl _) | exact Or.inr (by first | (simp; done) | (simp; omega))) _))); done) | (with_reducible refine (HT.out.on ?_).bx.cell 3 _ rfl; (repeat (first | with_reducible assumption | (with_reducible exact Keeps.refl _ _) | (with_reducible refine Keeps.drew ?_) | (with_reducible refine Keeps.drewN ?_ _) | (with_reducible refine Keeps.alloc ?_ _) | (with_reducible refine Keeps.setCell ?_ (by first | exact Or.inl rfl | exact Or.inr (Nat.le_refl _) | exact Or.inr (by first | (simp; done) | (simp; omega))) _))); done) | ((repeat (first | with_reducible assumption | (with_reducible exact Keeps.refl _ _) | (with_reducible refine Keeps.drew ?_) | (with_reducible refine Keeps.drewN ?_ _) | (with_reducible refine Keeps.alloc ?_ _) | (with_reducible refine Keeps.setCell ?_ (by first | exact Or.inl rfl | exact Or.inr (Nat.le_refl _) | exact Or.inr (by first | (simp; done) | (simp; omega))) _))); done))
   (first | (go_at_call 12; refine (HSt.out _ (by (repeat (first | with_reducible assumption | (with_reducible exact Keeps.refl _ _) | (with_reducible refine Keeps.drew ?_) | (with_reducible refine Keeps.drewN ?_ _) | (with_reducible refine Keeps.alloc ?_ _) | (with_reducible refine Keeps.setCell ?_ (by first | exact Or.inl rfl | exact Or.inr (Nat.le_refl _) | exact Or.inr (by first | (simp; done) | (simp; omega))) _))))).mono ?_; rintro e w2 ⟨rfl, hk2⟩; have zky : Keeps NoB w w2 := Keeps.trans (by (repeat (first | with_reducible assumption | (with_reducible exact Keeps.refl _ _) | (with_reducible refine Keeps.drew ?_) | (with_reducible refine Keeps.drewN ?_ _) | (with_reducible refine Keeps.alloc ?_ _) | (with_reducible refine Keeps.setCell ?_ (by first | exact Or.inl rfl | exact Or.inr (Nat.le_refl _) | exact Or.inr (by first | (simp; done) | (simp; omega))) _)))) hk2; have zs := zky.size; have z0 := (HT.out.on zky).bx.cell 1 _ rfl; have z1 := (HT.out.on zky).bx.cell 2 _ rfl; have z2 := (HT.out.on zky).bx.cell 3 _ rfl; (try (have yb := Bx.newD hk2; have y0 := yb.cell 0 _ rfl; have y1 := yb.cell 1 _ rfl; have y2 := yb.cell 2 _ rfl; have y3 := yb.cell 3 _ rfl; have y4 := yb.cell 4 _ rfl; have yf := yb.fz))))
  all_goals (go_wp2_with fail; go_meet; refine ⟨_, ?_, rfl, rfl, rfl, ?_, ?_⟩)
  all_goals first
   | exact Nat.le_refl _
   | exact zs
   | (with_reducible exact Bx.new (Keeps.refl NoB _))
   | (exact ((((yb.put 0 _).put 1 _).put 2 _).put 3 _).put 4 _)
   | ((repeat (first | with_reducible assumption | (with_reducible exact Keeps.refl _ _) | (with_reducible refine Keeps.drew ?_) | (with_reducible refine Keeps.drewN ?_ _) | (with_reducible refine Keeps.alloc ?_ _) | (with_reducible refine Keeps.setCell ?_ (by first | exact Or.inl rfl | exact Or.inr (Nat.le_refl _) | exact Or.inr (by first | (simp; done) | (simp; omega))) _))); done)
   | skip
 case rest =>
  obtain ⟨HIB, hG, rfl, rfl, rfl, HI, hk⟩ := hcut
  replace HI := Lib.hid HI
  have HK := Lib.hid hk
  have HG := Lib.hid hG
  replace HT := Lib.hid (HT.out.on hk)
  clear f0 b0 b1 fl HSt hG hk
  have i1 := HI.out.cell 1 _ rfl
  have hbn := HB.out
  cases bb
  all_goals
   go_wp2_with (go_at_call 58; go_loud (refine (HSt1.out _).mono ?_); rintro e w5 ⟨rfl, rfl⟩)
   go_ret
   exact ⟨rfl, HK.out⟩
theorem one_r {s : ByteArray} (h : TW W Q w B F a d room calls fail (wkC name F at' mask iv out err st)) (hsz : s.size <= 4294967280) {m : Nat} (hm : m <= 4095) {n ik il ih iz : Int} (hn : (thrR d at' s true).1.node = n)
 (hV : statV d (thrR d at' s true) = .agg #[.int .i64 ik, .int .i64 (m : Int), .int .i64 il, .int .i64 ih, .int .i64 iz]) (hE : statE d (thrR d at' s true) = 0) :
 Calls Tryz.prog 62 #[.pointer (some ⟨B, 0, none⟩), .string ⟨#[45, 114]⟩, .string s] w fun e w' => e = .returned (.int .i64 (if bt m 8 then 0 else 1)) ∧ Keeps NoB w w' := by
 have HT := Lib.hid h
 have HV := Lib.hid hV
 have HE := Lib.hid hE
 have HSz := Lib.hid hsz
 have hb := bit_and2 m 8 hm (by decide)
 rw [show ((2 ^ 8 : Nat) : Int) = 256 from rfl] at hb
 have hbn : (bits BinOp.and IntKind.i64 (m : Int) 256 != 0) = bt m 8 := by rw [bne, hb, Bool.not_not]
 obtain ⟨bb, hbb⟩ : ∃ bb, bt m 8 = bb := ⟨_, rfl⟩
 rw [hbb] at hbn ⊢
 have HB := Lib.hid hbn
 have HSt1 := Lib.hid (fun w1 : World => status_any bb w1)
 clear h hV hE hb hbn hbb
 go_enter Tryz.func62, Tryz.ntmps62
 have HSt := Lib.hid (fun (w1 : World) (k : Keeps NoB w w1) => (HT.out.fx.on k).asks fun N hN => stat_any hN at' mask s true HSz.out)
 rw [HV.out, HE.out, hn] at HSt
 clear hn
 have f0 := HT.out.bx.cell 1 _ rfl
 have b0 := HT.out.bx.cell 2 _ rfl
 have b1 := HT.out.bx.cell 3 _ rfl
 have fl := HT.out.bx.lt
 go_upto_region 6 with fail
 go_cut [7, 8, 9] from 22 to 41 (fun x y z wx => ∃ G : Nat, w.heap.size <= G ∧ x = .int .i64 n ∧ y = .pointer (some ⟨G, 0, none⟩) ∧ z = .int .i64 0 ∧ Bx wx G [.int .i64 ik, .int .i64 (m : Int), .int .i64 il, .int .i64 ih, .int .i64 iz] ∧ Keeps NoB w wx)
 case first =>
  have kr := Keeps.refl NoB w
  have krd := kr.drew
  have d0 := (HT.out.on krd).bx.cell 1 _ rfl
  have d1 := (HT.out.on krd).bx.cell 2 _ rfl
  have d2 := (HT.out.on krd).bx.cell 3 _ rfl
  go_region_held3 (fun wz => wz.cell? ⟨B, 1, none⟩ = some (.pointer (some ⟨F, 0, none⟩)) ∧ wz.cell? ⟨B, 2, none⟩ = some (.int .i64 at') ∧ wz.cell? ⟨B, 3, none⟩ = some (.int .i64 mask) ∧ Keeps NoB w wz) (refine ⟨?_, ?_, ?_, ?_⟩ <;> first | with_reducible assumption | (with_reducible refine (HT.out.on ?_).bx.cell 1 _ rfl; (repeat (first | with_reducible assumption | (with_reducible exact Keeps.refl _ _) | (with_reducible refine Keeps.drew ?_) | (with_reducible refine Keeps.drewN ?_ _) | (with_reducible refine Keeps.alloc ?_ _) | (with_reducible refine Keeps.setCell ?_ (by first | exact Or.inl rfl | exact Or.inr (Nat.le_refl _) | exact Or.inr (by first | (simp; done) | (simp; omega))) _))); done) | (with_reducible refine (HT.out.on ?_).bx.cell 2 _ rfl; (repeat (first | with_reducible assumption | (with_reducible exact Keeps.refl _ _) | (with_reducible refine Keeps.drew ?_) | (with_reducible refine Keeps.drewN ?_ _) | (with_reducible refine Keeps.alloc ?_ _) | (with_reducible refine Keeps.setCell ?_ (by first | exact Or.inl rfl | exact Or.inr (Nat.le_refl _) | exact Or.inr (by first | (simp; done) | (simp; omega))) _))); done) | (with_reducible refine (HT.out.on ?_).bx.cell 3 _ rfl; (repeat (first | with_reducible assumption | (with_reducible exact Keeps.refl _ _) | (with_reducible refine Keeps.drew ?_) | (with_reducible refine Keeps.drewN ?_ _) | (with_reducible refine Keeps.alloc ?_ _) | (with_reducible refine Keeps.setCell ?_ (by first | exact Or.inl rfl | exact Or.inr (Nat.le_refl _) | exact Or.inr (by first | (simp; done) | (simp; omega))) _))); done) | ((repeat (first | with_reducible assumption | (with_reducible exact Keeps.refl _ _) | (with_reducible refine Keeps.drew ?_) | (with_reducible refine Keeps.drewN ?_ _) | (with_reducible refine Keeps.alloc ?_ _) | (with_reducible refine Keeps.setCell ?_ (by first | exact Or.inl rfl | exact Or.inr (Nat.le_refl _) | exact Or.inr (by first | (simp; done) | (simp; omega))) _))); done))
   (first | (go_at_call 12; refine (HSt.out _ (by (repeat (first | with_reducible assumption | (with_reducible exact Keeps.refl _ _) | (with_reducible refine Keeps.drew ?_) | (with_reducible refine Keeps.drewN ?_ _) | (with_reducible refine Keeps.alloc ?_ _) | (with_reducible refine Keeps.setCell ?_ (by first | exact Or.inl rfl | exact Or.inr (Nat.le_refl _) | exact Or.inr (by first | (simp; done) | (simp; omega))) _))))).mono ?_; rintro e w2 ⟨rfl, hk2⟩; have zky : Keeps NoB w w2 := Keeps.trans (by (repeat (first | with_reducible assumption | (with_reducible exact Keeps.refl _ _) | (with_reducible refine Keeps.drew ?_) | (with_reducible refine Keeps.drewN ?_ _) | (with_reducible refine Keeps.alloc ?_ _) | (with_reducible refine Keeps.setCell ?_ (by first | exact Or.inl rfl | exact Or.inr (Nat.le_refl _) | exact Or.inr (by first | (simp; done) | (simp; omega))) _)))) hk2; have zs := zky.size; have z0 := (HT.out.on zky).bx.cell 1 _ rfl; have z1 := (HT.out.on zky).bx.cell 2 _ rfl; have z2 := (HT.out.on zky).bx.cell 3 _ rfl; (try (have yb := Bx.newD hk2; have y0 := yb.cell 0 _ rfl; have y1 := yb.cell 1 _ rfl; have y2 := yb.cell 2 _ rfl; have y3 := yb.cell 3 _ rfl; have y4 := yb.cell 4 _ rfl; have yf := yb.fz))))
  all_goals (go_wp2_with fail; go_meet; refine ⟨_, ?_, rfl, rfl, rfl, ?_, ?_⟩)
  all_goals first
   | exact Nat.le_refl _
   | exact zs
   | (with_reducible exact Bx.new (Keeps.refl NoB _))
   | (exact ((((yb.put 0 _).put 1 _).put 2 _).put 3 _).put 4 _)
   | ((repeat (first | with_reducible assumption | (with_reducible exact Keeps.refl _ _) | (with_reducible refine Keeps.drew ?_) | (with_reducible refine Keeps.drewN ?_ _) | (with_reducible refine Keeps.alloc ?_ _) | (with_reducible refine Keeps.setCell ?_ (by first | exact Or.inl rfl | exact Or.inr (Nat.le_refl _) | exact Or.inr (by first | (simp; done) | (simp; omega))) _))); done)
   | skip
 case rest =>
  obtain ⟨HIB, hG, rfl, rfl, rfl, HI, hk⟩ := hcut
  replace HI := Lib.hid HI
  have HK := Lib.hid hk
  have HG := Lib.hid hG
  replace HT := Lib.hid (HT.out.on hk)
  clear f0 b0 b1 fl HSt hG hk
  have i1 := HI.out.cell 1 _ rfl
  have hbn := HB.out
  cases bb
  all_goals
   go_wp2_with (go_at_call 58; go_loud (refine (HSt1.out _).mono ?_); rintro e w5 ⟨rfl, rfl⟩)
   go_ret
   exact ⟨rfl, HK.out⟩
end
section
variable {W w : World} {Q : Nat -> Prop} {B F a : Nat} {d d' : Nds} {room calls fail at' mask st : Int} {name out err : ByteArray} {iv : Value}
theorem test_br {S : Nat -> Prop} {p : Option Addr} {c : Nat} {op s : ByteArray} (h : TW W Q w B F a d room calls fail (wkC ⟨#[91]⟩ F at' mask iv out err st)) (hA : SlAt encStr S w p c [op, s, ⟨#[93]⟩]) (hop : ¬ op = ⟨#[33]⟩) {r : Int}
 (ho : ∀ w1, Keeps NoB w w1 -> Calls Tryz.prog 62 #[.pointer (some ⟨B, 0, none⟩), .string op, .string s] w1 fun e w' => e = .returned (.int .i64 r) ∧ Keeps NoB w1 w') :
 Calls Tryz.prog 28 #[.pointer (some ⟨B, 0, none⟩), .slice p 3 c] w fun e w' => e = .returned (.int .i64 r) ∧ Keeps NoB w w' := by
 obtain ⟨g, o, rfl, _, hgl, t0⟩ := hA.str (i := 0) (x := op) rfl
 obtain ⟨g1, o1, e1, _, _, t1⟩ := hA.str (i := 1) (x := s) rfl
 cases e1
 obtain ⟨g2, o2, e2, _, _, t2⟩ := hA.str (i := 2) (x := ⟨#[93]⟩) rfl
 cases e2
 have hcp := hA.cap
 have hmx := hA.max
 unfold maxLen at hmx
 simp only [List.length_cons, List.length_nil, Nat.zero_add] at hcp
 have c0 : w.cell? ⟨g, o, none⟩ = some (.string op) := t0
 have hsl : ∀ wx : World, (Instr.slice 34 (.slice (some ⟨g, o, none⟩) 3 c) none (some (.int .i64 2)) none).run Tryz.prog wx = .ok (.slice (some ⟨g, o, none⟩) 2 c) wx := fun wx => run_slice_h (P := Tryz.prog) 34 9 Tryz.underlying34 (by kernel_rfl) g o 3 c 2 (by omega) wx (by omega)
 have hn := toList_ne hop
 rw [show (⟨#[33]⟩ : ByteArray).toList = [33] by rw [Lib.toList_data]] at hn
 have hq : (⟨#[93]⟩ : ByteArray).toList = [93] := by rw [Lib.toList_data]
 have b0 := h.bx.cell 0 _ rfl
 have bl := h.bx.lt
 have HO := Lib.hid ho
 clear h hA hop ho t0
 go_enter Tryz.func28, Tryz.ntmps28
 go_upto_region 19 with fail
 have HO2 := Lib.hid (HO.out _ (Keeps.refl NoB w).drew)
 go_still_tail 7, (by kernel_rfl)
 change wpList _ _ _ _ _ (World.drew _)
 go_wp2_with (go_at_call 62; go_loud (refine HO2.out.mono ?_); rintro e w5 ⟨rfl, hk5⟩)
 go_ret
 exact ⟨rfl, (Keeps.refl NoB w).drew.trans hk5⟩
theorem run_br (h : FSx W Q w F a d room calls fail) {p : Option Addr} {n c : Nat} {bt' : TypeId} {bv : Value} {r : Int}
 (hm : ∀ (Q' : Nat -> Prop) w1 B, TW W Q' w1 B F a d room calls fail (wkC ⟨#[91]⟩ F at' mask (.iface bt' bv) ⟨#[]⟩ ⟨#[]⟩ 0) -> Keeps NoB w w1 ->
   Calls Tryz.prog 28 #[.pointer (some ⟨B, 0, none⟩), .slice p n c] w1 fun e w' => e = .returned (.int .i64 r) ∧ Keeps NoB w1 w') :
 Calls Tryz.prog 11 #[.string ⟨#[91]⟩, .slice p n c, .pointer (some ⟨F, 0, none⟩), .agg #[.int .i64 at', .int .i64 mask], .iface bt' bv] w (FXo W Q w F a d room calls fail (.agg #[.string ⟨#[]⟩, .string ⟨#[]⟩, .int .i64 r])) := by
 have HS := Lib.hid (run_start (bt := bt') (bv := bv) (at' := at') (mask := mask) (name := ⟨#[91]⟩) h)
 have HM := Lib.hid (fun Q' w1 B h1 h2 => hm Q' w1 B h1 h2)
 have HW := Lib.hid h.keeps.size
 clear h hm
 go_enter Tryz.func11, Tryz.ntmps11
 go_upto_region 2 with fail
 obtain ⟨HT, HR, HK, hBR⟩ := HS.out
 generalize ((w.alloc (.cells #[.int .i64 at', .int .i64 mask] 28)).alloc (.cells #[.string ⟨#[]⟩, .string ⟨#[]⟩, .int .i64 0] 37)).alloc (.cells #[.string ⟨#[91]⟩, .pointer (some ⟨F, 0, none⟩), .int .i64 at', .int .i64 mask, .iface bt' bv, .string ⟨#[]⟩, .string ⟨#[]⟩, .int .i64 0] 70) = w3 at *
 have HC := Lib.hid (HM.out _ _ _ HT HK)
 have hkz := HK.size
 have HKw := Lib.hid HK
 have HRw := Lib.hid HR
 have HTw := Lib.hid HT
 have hne : Hid (¬ w.heap.size + 1 = w.heap.size + 1 + 1) := by show ¬ _; omega
 have HBB : Hid (w.heap.size <= w.heap.size + 1 + 1) := by show _ <= _; omega
 generalize w.heap.size + 1 + 1 = B at *
 clear HM HK HR HT
 go_wp2_with (go_at_call 28; go_loud (refine HC.out.mono ?_); rintro e w4 ⟨rfl, hk4⟩; have ht4 := HTw.out.on hk4; have hr4 := HRw.out.on hk4; have ht5 := ht4.put 7 (.int .i64 r); have hr5 := hr4.keep (keeps_set w4 ⟨B, 7, none⟩ (.int .i64 r)) (fun e => hne.out e); have a5 := ht4.bx.cell 5 _ rfl; have a6 := ht4.bx.cell 6 _ rfl; have a7 := ht4.bx.cell 7 _ rfl; have c5 := ht5.bx.cell 5 _ rfl; have c6 := ht5.bx.cell 6 _ rfl; have c7 := ht5.bx.cell 7 _ rfl; have ab := ht4.bx.lt; have af := ht4.bx.fz 7; have r0 := hr5.cell 0 _ rfl; have r1 := hr5.cell 1 _ rfl; have r2 := hr5.cell 2 _ rfl; have rf := hr5.fz; have rl := hr5.lt)
 have hW : W.heap.size <= w.heap.size := HW.out
 refine bodyPost_ret (v := .agg #[.string ⟨#[]⟩, .string ⟨#[]⟩, .int .i64 r]) ?_ rfl ?_
 ·rw [results_cell_oneT rfl]; go_simp
 obtain ⟨w5, hw5⟩ : ∃ w5, w4.setCell ⟨B, 7, none⟩ (.int .i64 r) = w5 := ⟨_, rfl⟩
 rw [hw5] at ht5 ⊢
 have k45 : Keeps (fun x => x = B) w4 w5 := by rw [<- hw5]; exact keeps_set w4 ⟨B, 7, none⟩ (.int .i64 r)
 have k3 := kset w5 ⟨w.heap.size + 1, 0, none⟩ (.string ⟨#[]⟩)
 have k4 := kset (w5.setCell ⟨w.heap.size + 1, 0, none⟩ (.string ⟨#[]⟩)) ⟨w.heap.size + 1, 1, none⟩ (.string ⟨#[]⟩)
 have k5 := kset ((w5.setCell ⟨w.heap.size + 1, 0, none⟩ (.string ⟨#[]⟩)).setCell ⟨w.heap.size + 1, 1, none⟩ (.string ⟨#[]⟩)) ⟨w.heap.size + 1, 2, none⟩ (.int .i64 r)
 have k6 := (k3.trans k4).trans k5
 have t6 := ht5.fx.turn k6 (fun g hg => ⟨.inr (.inr hg), by have e : g = w.heap.size + 1 := hg; omega⟩)
 refine ⟨rfl, t6.more (Keeps.refl _ _) (fun g hg => .inl (.inr (.inl hg))), ?_⟩
 exact (((HKw.out.trans hk4).of_none).step k45 (fun g hg => .inr (by have e : g = B := hg; have := HBB.out; omega))).step k6 (fun g hg => .inr (by have e : g = w.heap.size + 1 := hg; omega))
end
section
variable {W w : World} {Q : Nat -> Prop} {B F a : Nat} {d d' : Nds} {room calls fail at' mask st : Int} {name out err : ByteArray} {iv : Value}
theorem chmod_one {S : Nat -> Prop} {p : Option Addr} {c : Nat} {s : ByteArray} {m : Nat} (h : TW W Q w B F a d room calls fail (wkC name F at' mask iv out err st)) (hA : SlAt encStr S w p c [octB m, s]) (hm : m <= 4095)
 (hs2 : s.size <= 1000) (hc0 : 0 <= calls) (hc1 : calls <= 4611686018427387904)
 {n ik im il ih iz : Int} (hn : (thrR d at' s true).1.node = n) (hV : statV d (thrR d at' s true) = .agg #[.int .i64 ik, .int .i64 im, .int .i64 il, .int .i64 ih, .int .i64 iz]) (hE : statE d (thrR d at' s true) = 0)
 (hd' : orFail calls fail d (chmR d at' s (m : Int)) = (d', 0)) :
 Calls Tryz.prog 33 #[.pointer (some ⟨B, 0, none⟩), .slice p 2 c] w fun e w' => e = .returned (.tuple #[]) ∧ TW W Q w' B F a d' room (calls + 1) fail (wkC name F at' mask iv out err st) ∧ Keeps (Lw W Q) w w' := by
 have HT := Lib.hid h
 have HV := Lib.hid hV
 have HE := Lib.hid hE
 have hsz : s.size <= 4294967280 := by omega
 have HSz := Lib.hid hsz
 obtain ⟨g, o, rfl, _, hgl, t0⟩ := hA.str (i := 0) (x := octB m) rfl
 obtain ⟨g1, o1, e1, _, _, t1⟩ := hA.str (i := 1) (x := s) rfl
 cases e1
 have hcp := hA.cap
 have hmx := hA.max
 unfold maxLen at hmx
 simp only [List.length_cons, List.length_nil, Nat.zero_add] at hcp
 have hsub := hA.sub 1 2 (by omega) (by simp)
 rw [show ([octB m, s].take 2).drop 1 = [s] from rfl] at hsub
 obtain ⟨vg, vo, hvp, _, _, c0⟩ := hsub.str (i := 0) (x := s) rfl
 rw [show encStr.k = 1 from rfl] at hvp
 have hsl1 : ∀ wx : World, (Instr.slice 34 (.slice (some ⟨g, o, none⟩) 2 c) (some (.int .i64 1)) none none).run Tryz.prog wx = .ok (.slice (some ⟨vg, vo, none⟩) 1 (c - 1)) wx := fun wx => by
  rw [<- hvp]
  exact run_slice_l (P := Tryz.prog) 34 9 1 Tryz.underlying34 (by kernel_rfl) (some ⟨g, o, none⟩) 2 c 1 (by omega) wx (by omega)
 have HC0 : Hid (w.cell? ⟨vg, vo, none⟩ = some (.string s)) := c0
 have HA0 : Hid (w.cell? ⟨g, o, none⟩ = some (.string (octB m))) := t0
 have hdd : ((octB m).toList == [45, 45]) = false := by
  rw [Lib.toList_data, beq_eq_false_iff_ne]
  intro e
  have := congrArg List.length e
  cases this
 have HCh := Lib.hid (fun (x mk : Int) (dir : Bool) (w1 : World) => change_any m m hm x mk dir w1)
 have HM : Hid (∀ w1 : World, TW W Q w1 B F a d room calls fail (wkC name F at' mask iv out err st) -> Calls Tryz.prog 10 #[.pointer (some ⟨F, 0, none⟩), .agg #[.int .i64 at', .int .i64 mask], .string s, .int .i64 (m : Int)] w1 fun e w' => e = .returned (.int .i64 0) ∧ TW W Q w' B F a d' room (calls + 1) fail (wkC name F at' mask iv out err st) ∧ Keeps (Gd W Q B) w1 w') := Lib.hid fun w1 k => by
  have := k.call (fun N hN => chmod_anyF hN hc0 hc1 at' mask s (m : Int) (by omega))
  rw [hd'] at this
  exact this
 have HWr := Lib.hid (fun w1 : World => wrong_ok (B := B) 1 w1)
 obtain ⟨om, hom⟩ : ∃ om, octB m = om := ⟨_, rfl⟩
 rw [hom] at HA0 hdd HCh
 have a0 := HA0.out
 generalize c - 1 = cc at *
 clear h hA hsub hvp c0 t0 t1 hV hE hd' hc0 hc1 hm hom
 go_enter Tryz.func33, Tryz.ntmps33
 go_wp2_with fail
 clear hsl1 a0 hdd
 go_loopw [29] (fun i wr => (i = .int .i64 0 ∧ wr = w) ∨ (i = .int .i64 1 ∧ TW W Q wr B F a d' room (calls + 1) fail (wkC name F at' mask iv out err st) ∧ Keeps (Lw W Q) w wr)) (fun i _ => 2 - (intOf i).toNat)
 case atStart => exact .inl ⟨rfl, rfl⟩
 case round =>
  rcases hrel with ⟨rfl, hw⟩ | ⟨rfl, ht, hk⟩
  ·obtain rfl : w = wr := hw.symm
   have c1 := HC0.out
   have HSt := Lib.hid (fun (w1 : World) (k : Keeps NoB w w1) => (HT.out.fx.on k).asks fun N hN => stat_any hN at' mask s true HSz.out)
   rw [HV.out, HE.out, hn] at HSt
   clear hn
   have f0 := HT.out.bx.cell 1 _ rfl
   have b0 := HT.out.bx.cell 2 _ rfl
   have b1 := HT.out.bx.cell 3 _ rfl
   have fl := HT.out.bx.lt
   go_upto_region 7 with fail
   go_cut [6, 7, 8] from 33 to 46 (fun x y z wx => ∃ G : Nat, ∃ wn : World, wn = wx ∧ w.heap.size <= G ∧ x = .int .i64 n ∧ y = .pointer (some ⟨G, 0, none⟩) ∧ z = .int .i64 0 ∧ Bx wx G [.int .i64 ik, .int .i64 im, .int .i64 il, .int .i64 ih, .int .i64 iz] ∧ Keeps NoB w wx)
   case first =>
    have kr := Keeps.refl NoB w
    have krd := kr.drew
    have d0 := (HT.out.on krd).bx.cell 1 _ rfl
    have d1 := (HT.out.on krd).bx.cell 2 _ rfl
    have d2 := (HT.out.on krd).bx.cell 3 _ rfl
    go_region_held3 (fun wz => wz.cell? ⟨B, 1, none⟩ = some (.pointer (some ⟨F, 0, none⟩)) ∧ wz.cell? ⟨B, 2, none⟩ = some (.int .i64 at') ∧ wz.cell? ⟨B, 3, none⟩ = some (.int .i64 mask) ∧ Keeps NoB w wz) (refine ⟨?_, ?_, ?_, ?_⟩ <;> first | with_reducible assumption | (with_reducible refine (HT.out.on ?_).bx.cell 1 _ rfl; (repeat (first | with_reducible assumption | (with_reducible exact Keeps.refl _ _) | (with_reducible refine Keeps.drew ?_) | (with_reducible refine Keeps.drewN ?_ _) | (with_reducible refine Keeps.alloc ?_ _) | (with_reducible refine Keeps.setCell ?_ (by first | exact Or.inl rfl | exact Or.inr (Nat.le_refl _) | exact Or.inr (by first | (simp; done) | (simp; omega))) _))); done) | (with_reducible refine (HT.out.on ?_).bx.cell 2 _ rfl; (repeat (first | with_reducible assumption | (with_reducible exact Keeps.refl _ _) | (with_reducible refine Keeps.drew ?_) | (with_reducible refine Keeps.drewN ?_ _) | (with_reducible refine Keeps.alloc ?_ _) | (with_reducible refine Keeps.setCell ?_ (by first | exact Or.inl rfl | exact Or.inr (Nat.le_refl _) | exact Or.inr (by first | (simp; done) | (simp; omega))) _))); done) | (with_reducible refine (HT.out.on ?_).bx.cell 3 _ rfl; (repeat (first | with_reducible assumption | (with_reducible exact Keeps.refl _ _) | (with_reducible refine Keeps.drew ?_) | (with_reducible refine Keeps.drewN ?_ _) | (with_reducible refine Keeps.alloc ?_ _) | (with_reducible refine Keeps.setCell ?_ (by first | exact Or.inl rfl | exact Or.inr (Nat.le_refl _) | exact Or.inr (by first | (simp; done) | (simp; omega))) _))); done) | ((repeat (first | with_reducible assumption | (with_reducible exact Keeps.refl _ _) | (with_reducible refine Keeps.drew ?_) | (with_reducible refine Keeps.drewN ?_ _) | (with_reducible refine Keeps.alloc ?_ _) | (with_reducible refine Keeps.setCell ?_ (by first | exact Or.inl rfl | exact Or.inr (Nat.le_refl _) | exact Or.inr (by first | (simp; done) | (simp; omega))) _))); done))
     (first | (go_at_call 12; refine (HSt.out _ (by (repeat (first | with_reducible assumption | (with_reducible exact Keeps.refl _ _) | (with_reducible refine Keeps.drew ?_) | (with_reducible refine Keeps.drewN ?_ _) | (with_reducible refine Keeps.alloc ?_ _) | (with_reducible refine Keeps.setCell ?_ (by first | exact Or.inl rfl | exact Or.inr (Nat.le_refl _) | exact Or.inr (by first | (simp; done) | (simp; omega))) _))))).mono ?_; rintro e w2 ⟨rfl, hk2⟩; have zky : Keeps NoB w w2 := Keeps.trans (by (repeat (first | with_reducible assumption | (with_reducible exact Keeps.refl _ _) | (with_reducible refine Keeps.drew ?_) | (with_reducible refine Keeps.drewN ?_ _) | (with_reducible refine Keeps.alloc ?_ _) | (with_reducible refine Keeps.setCell ?_ (by first | exact Or.inl rfl | exact Or.inr (Nat.le_refl _) | exact Or.inr (by first | (simp; done) | (simp; omega))) _)))) hk2; have zs := zky.size; have z0 := (HT.out.on zky).bx.cell 1 _ rfl; have z1 := (HT.out.on zky).bx.cell 2 _ rfl; have z2 := (HT.out.on zky).bx.cell 3 _ rfl; (try (have yb := Bx.newD hk2; have y0 := yb.cell 0 _ rfl; have y1 := yb.cell 1 _ rfl; have y2 := yb.cell 2 _ rfl; have y3 := yb.cell 3 _ rfl; have y4 := yb.cell 4 _ rfl; have yf := yb.fz))))
    all_goals (go_wp2_with fail; go_meet; refine ⟨_, _, rfl, ?_, rfl, rfl, rfl, ?_, ?_⟩)
    all_goals first
     | exact Nat.le_refl _
     | exact zs
     | (with_reducible exact Bx.new (Keeps.refl NoB _))
     | (exact ((((yb.put 0 _).put 1 _).put 2 _).put 3 _).put 4 _)
     | ((repeat (first | with_reducible assumption | (with_reducible exact Keeps.refl _ _) | (with_reducible refine Keeps.drew ?_) | (with_reducible refine Keeps.drewN ?_ _) | (with_reducible refine Keeps.alloc ?_ _) | (with_reducible refine Keeps.setCell ?_ (by first | exact Or.inl rfl | exact Or.inr (Nat.le_refl _) | exact Or.inr (by first | (simp; done) | (simp; omega))) _))); done)
     | skip
   case rest =>
    obtain ⟨HIB, wx, rfl, hG, rfl, rfl, rfl, HI, hk⟩ := hcut
    replace HI := Lib.hid HI
    have HK := Lib.hid hk
    have HG := Lib.hid hG
    replace HT := Lib.hid (HT.out.on hk)
    clear f0 b0 b1 fl HSt hG hk
    have HA1 : Hid (wx.cell? ⟨g, o, none⟩ = some (.string om)) := Lib.hid ((HK.out.cell (p := ⟨g, o, none⟩) hgl (fun h => h)).trans HA0.out)
    go_upto_region 10 with fail
    have a0 := HA1.out
    have i0 := HI.out.cell 0 _ rfl
    have i1 := HI.out.cell 1 _ rfl
    have b1 := HT.out.bx.cell 3 _ rfl
    obtain ⟨kb, hkb⟩ : ∃ kb, (ik == 2) = kb := ⟨_, rfl⟩
    have HKB := Lib.hid hkb
    go_cut [9, 8] from 49 to 65 (fun x y wy => x = .int .i64 (m : Int) ∧ y = .int .i64 0 ∧ Keeps NoB wx wy)
    case first =>
     have krd := (Keeps.refl NoB wx).drew
     have d0 : wx.drew.cell? ⟨g, o, none⟩ = some (.string om) := a0
     have e0 := (HI.out.on krd).cell 0 _ rfl
     have e1 := (HI.out.on krd).cell 1 _ rfl
     have e3 := (HT.out.on krd).bx.cell 3 _ rfl
     go_region_held3 (fun wz => wz.cell? ⟨g, o, none⟩ = some (.string om) ∧ wz.cell? ⟨HIB, 0, none⟩ = some (.int .i64 ik) ∧ wz.cell? ⟨HIB, 1, none⟩ = some (.int .i64 im) ∧ wz.cell? ⟨B, 3, none⟩ = some (.int .i64 mask) ∧ Keeps NoB wx wz) (refine ⟨?_, ?_, ?_, ?_, ?_⟩ <;> first | with_reducible assumption | ((repeat (first | with_reducible assumption | (with_reducible exact Keeps.refl _ _) | (with_reducible refine Keeps.drew ?_) | (with_reducible refine Keeps.drewN ?_ _) | (with_reducible refine Keeps.alloc ?_ _) | (with_reducible refine Keeps.setCell ?_ (by first | exact Or.inl rfl | exact Or.inr (Nat.le_refl _) | exact Or.inr (by first | (simp; done) | (simp; omega))) _))); done))
      (first | (go_at_call 66; refine (HCh.out _ _ _ _).mono ?_; rintro e w2 ⟨rfl, hk2⟩; have zky : Keeps NoB wx w2 := Keeps.trans (by (repeat (first | with_reducible assumption | (with_reducible exact Keeps.refl _ _) | (with_reducible refine Keeps.drew ?_) | (with_reducible refine Keeps.drewN ?_ _) | (with_reducible refine Keeps.alloc ?_ _) | (with_reducible refine Keeps.setCell ?_ (by first | exact Or.inl rfl | exact Or.inr (Nat.le_refl _) | exact Or.inr (by first | (simp; done) | (simp; omega))) _)))) hk2; have z0 : w2.cell? ⟨g, o, none⟩ = some (.string om) := (zky.cell (p := ⟨g, o, none⟩) (lt_of_cell a0) (fun h => h)).trans a0; have z1 := (HI.out.on zky).cell 0 _ rfl; have z2 := (HI.out.on zky).cell 1 _ rfl; have z3 := (HT.out.on zky).bx.cell 3 _ rfl))
     all_goals (go_wp2_with fail; go_meet; exact ⟨rfl, rfl, zky⟩)
    case rest =>
     obtain ⟨rfl, rfl, hk2⟩ := hcut
     replace HT := Lib.hid (HT.out.on hk2)
     have HK2 := Lib.hid (HK.out.trans hk2)
     clear a0 i0 i1 b1 hkb hk2 HI HA1
     go_upto_region 12 with fail
     have HM7 := Lib.hid (HM.out _ (HT.out.on (Keeps.refl NoB _).drew))
     have hd := HT.out.on (Keeps.refl NoB _).drew
     have HD := Lib.hid hd
     have g0 := HT.out.bx.cell 1 _ rfl
     have g1 := HT.out.bx.cell 2 _ rfl
     have g2 := HT.out.bx.cell 3 _ rfl
     have f0 := hd.bx.cell 1 _ rfl
     have f1 := hd.bx.cell 2 _ rfl
     have f2 := hd.bx.cell 3 _ rfl
     have fl := hd.bx.lt
     clear hd
     go_still_tail 10, (by kernel_rfl)
     change wpList _ _ _ _ _ (World.drew _)
     go_wp2_with (first | (go_at_call 10; go_loud (refine HM7.out.mono ?_); rintro e w5 ⟨rfl, ht5, hk5⟩) | (go_at_call 30; go_loud (refine (HWr.out _).mono ?_); rintro e w6 ⟨rfl, rfl⟩))
     go_roundw
     case rel => exact .inr ⟨by go_num, ht5, (HK2.out.drew.of_none).trans (gd_low hk5)⟩
     case measure => simp [intOf]
  ·go_wp2_with fail
   go_end0
   exact ⟨rfl, ht, hk⟩
end
set_option maxHeartbeats 4000000
def dgB (k : Nat) : ByteArray := ⟨#[(48 + k).toUInt8]⟩
theorem itoa_digit (k : Nat) (hk : k = 0 ∨ k = 1 ∨ k = 2) (w : World) : Calls Tryz.prog 64 #[.int .i64 (k : Int)] w fun e w' => e = .returned (.string (dgB k)) ∧ w = w' := by
 have h3 : Hid (Calls Tryz.prog 157 #[.int .i64 (k : Int)] w fun e w' => e = .returned (.string (dgB k)) ∧ w = w') := by
  show Calls _ _ _ _ _
  rcases hk with rfl | rfl | rfl
  all_goals
   go_enter Tryz.func157, Tryz.ntmps157
   go_wp2
   go_ret
   exact ⟨rfl, rfl⟩
 have h2 : Hid (Calls Tryz.prog 128 #[.int .i64 (k : Int), .int .i64 10] w fun e w' => e = .returned (.string (dgB k)) ∧ w = w') := by
  show Calls _ _ _ _ _
  have hl : (k : Int) < 100 := by omega
  have hg : (0 : Int) <= k := by omega
  clear hk
  go_enter Tryz.func128, Tryz.ntmps128
  go_wp2_with (go_at_call 157; go_loud (refine h3.out.mono ?_); rintro e w1 ⟨rfl, rfl⟩)
  go_ret
  exact ⟨rfl, rfl⟩
 have h1 : Hid (Calls Tryz.prog 96 #[.int .i64 (k : Int)] w fun e w' => e = .returned (.string (dgB k)) ∧ w = w') := by
  show Calls _ _ _ _ _
  go_enter Tryz.func96, Tryz.ntmps96
  go_wp2_with (go_at_call 128; go_loud (refine h2.out.mono ?_); rintro e w1 ⟨rfl, rfl⟩)
  go_ret
  exact ⟨rfl, rfl⟩
 go_enter Tryz.func64, Tryz.ntmps64
 go_wp2_with (go_at_call 96; go_loud (refine h1.out.mono ?_); rintro e w1 ⟨rfl, rfl⟩)
 go_ret
 exact ⟨rfl, rfl⟩
end Go.Proofs.YtimidmogcbapnaaGreatDoor
