/-
 Contracts of the reference for layer 5: way.
-/
import Derived.Test.YtijbhmledmnifaaGreatDoorG13
import Derived.Test.YtijbhmledmnifaaGreatDoorG14
import Derived.Test.YtijbhmledmnifaaGreatDoorG09
import Derived.Laws.Bits64b
import Derived.Test.YtijbhmledmnifaaGreatDoorG10
import Derived.Test.YtijbhmledmnifaaGreatDoorG11
import Derived.Deep.RegionHeld3
import Derived.Test.YtijbhmledmnifaaGreatDoorG07
import Derived.Test.YtijbhmledmnifaaGreatDoorG03
import Derived.BigQuiet
import Derived.Deep.QuietTactic

set_option linter.unusedSimpArgs false
set_option linter.unusedVariables false
set_option maxRecDepth 100000
namespace Go.Proofs.YtijbhmledmnifaaGreatDoor
open Go Go.RowKit
section
variable {S : Nat -> Prop} {w : World} {p : Option Addr} {c : Nat} {d : Nds} {room : Int}
theorem way_step (hI : DInv d) (hs : smallD d) {up : Int -> Int} (hup : ∀ i u, folderErr d i = 0 -> UpIs d i u -> up i = u) (follow : Bool) (fuel : Nat) (ih : WayOk d up room follow fuel) : WayOk d up room follow (fuel + 1) := by
 intro S w p c h from' s n hsz h40 hfu
 cases hab : absB s with
 | true => exact way_true hI hs hup follow fuel ih S w p c h from' s n hsz h40 hfu hab
 | false => exact way_false hI hs hup follow fuel ih S w p c h from' s n hsz h40 hfu hab
end
set_option maxHeartbeats 4000000
section
variable {S : Nat -> Prop} {w : World} {p : Option Addr} {c : Nat} {d : Nds} {room : Int}
theorem way_all (hI : DInv d) (hs : smallD d) {up : Int -> Int} (hup : ∀ i u, folderErr d i = 0 -> UpIs d i u -> up i = u) (follow : Bool) : ∀ fuel, WayOk d up room follow fuel
 | 0 => fun _ _ _ _ _ _ _ _ _ h1 h2 => by omega
 | fuel + 1 => way_step hI hs hup follow fuel (way_all hI hs hup follow fuel)
theorem r5findS_any (h : RefAt S w p c d) (hI : DInv d) (hs : smallD d) {up : Int -> Int} (hup : ∀ i u, folderErr d i = 0 -> UpIs d i u -> up i = u) (from' : Int) (s : ByteArray) (follow : Bool) (hsz : s.size <= 4294967280) :
  Calls Tryz.prog 122 #[refV p c d room, .int .i64 from', .string s, .bool follow] w fun e w' =>
   e = .returned (.tuple #[plcV (findS d up follow 41 from' s 0).1, .int .i64 (findS d up follow 41 from' s 0).2]) ∧ Keeps NoB w w' := by
 have k1 : Keeps NoB w ((w.alloc (.cells #[.slice p d.length c, .int .i64 room] 35)).alloc (.cells #[.int .i64 0, .int .i64 0, .string ⟨#[]⟩] 129)) := ((Keeps.refl _ _).alloc _).alloc _
 have e1 : (w.alloc (.cells #[.slice p d.length c, .int .i64 room] 35)).heap.size = w.heap.size + 1 := by simp
 have HW := Lib.hid (way_all (room := room) hI hs hup follow 41 _ _ _ _ (h.keepN k1) from' s 0 hsz (by decide) (by decide))
 obtain ⟨⟨⟨Fn, Fd, Fm⟩, Fe⟩, hF⟩ : ∃ F, findS d up follow 41 from' s 0 = F := ⟨_, rfl⟩
 rw [hF] at HW ⊢
 unfold plcV refV at HW
 unfold refV
 simp only at HW ⊢
 clear hF hup
 go_enter Tryz.func122, Tryz.ntmps122
 go_wp2_with (first | (go_at_call 180; go_loud (refine HW.out.mono ?_); rintro e w2 ⟨rfl, hk2⟩; have KB := c3_new (v0 := .int .i64 0) (v1 := .int .i64 0) (v2 := .string ⟨#[]⟩) hk2; rw [e1] at KB; have B0 := KB.c0; have B1 := KB.c1; have B2 := KB.c2; have FB := KB.fz; have bl := KB.lt; have kz := k1.trans hk2))
 (try simp only [Exit.inBlock, Exit.then])
 refine bodyPost_ret (v := .tuple #[plcV ⟨Fn, Fd, Fm⟩, .int .i64 Fe]) ?_ rfl ?_
 ·rw [results_cell_tmp rfl]; unfold plcV; go_simp
 ·refine ⟨rfl, ?_⟩
  (repeat (first | with_reducible assumption | (with_reducible exact Keeps.refl _ _) | (with_reducible refine Keeps.drew ?_) | (with_reducible refine Keeps.alloc ?_ _) | (with_reducible refine Keeps.setCell ?_ (by first | exact Or.inl rfl | exact Or.inr (Nat.le_refl _) | exact Or.inr (by first | (simp; done) | (simp; omega))) _)))
def thereQ (F : Plc × Int) : Plc × Int := if F.2 = 0 ∧ F.1.node = 0 then (.no, 12) else F
theorem r5thereS_any (h : RefAt S w p c d) (hI : DInv d) (hs : smallD d) {up : Int -> Int} (hup : ∀ i u, folderErr d i = 0 -> UpIs d i u -> up i = u) (from' : Int) (s : ByteArray) (follow : Bool) (hsz : s.size <= 4294967280) :
  Calls Tryz.prog 56 #[refV p c d room, .int .i64 from', .string s, .bool follow] w fun e w' =>
   e = .returned (.tuple #[plcV (thereQ (findS d up follow 41 from' s 0)).1, .int .i64 (thereQ (findS d up follow 41 from' s 0)).2]) ∧ Keeps NoB w w' := by
 have k1 : Keeps NoB w ((w.alloc (.cells #[.slice p d.length c, .int .i64 room] 35)).alloc (.cells #[.int .i64 0, .int .i64 0, .string ⟨#[]⟩] 129)) := ((Keeps.refl _ _).alloc _).alloc _
 have e1 : (w.alloc (.cells #[.slice p d.length c, .int .i64 room] 35)).heap.size = w.heap.size + 1 := by simp
 have HW := Lib.hid (r5findS_any (room := room) (h.keepN k1) hI hs hup from' s follow hsz)
 obtain ⟨⟨⟨Fn, Fd, Fm⟩, Fe⟩, hF⟩ : ∃ F, findS d up follow 41 from' s 0 = F := ⟨_, rfl⟩
 rw [hF] at HW ⊢
 unfold plcV refV at HW
 unfold refV
 simp only at HW
 clear hF hup
 have hC : (Fe ≠ 0 ∨ (Fe = 0 ∧ Fn ≠ 0)) ∨ (Fe = 0 ∧ Fn = 0) := by
  by_cases g1 : Fe = 0
  ·by_cases g2 : Fn = 0
   ·exact .inr ⟨g1, g2⟩
   ·exact .inl (.inr ⟨g1, g2⟩)
  ·exact .inl (.inl g1)
 rcases hC with hC | ⟨g1, g2⟩
 ·have HQ := Lib.hid (show thereQ (⟨Fn, Fd, Fm⟩, Fe) = (⟨Fn, Fd, Fm⟩, Fe) by
   unfold thereQ
   rw [if_neg]
   rintro ⟨h1, h2⟩
   exact hC.elim (fun h => h h1) (fun h => h.2 h2))
  rcases hC with g1 | ⟨g1, g2⟩
  ·have b1 : (Fe == 0) = false := by simpa using g1
   go_enter Tryz.func56, Tryz.ntmps56
   go_wp2_with (first | (go_at_call 122; go_loud (refine HW.out.mono ?_); rintro e w2 ⟨rfl, hk2⟩; have KB := c3_new (v0 := .int .i64 0) (v1 := .int .i64 0) (v2 := .string ⟨#[]⟩) hk2; rw [e1] at KB; have B0 := KB.c0; have B1 := KB.c1; have B2 := KB.c2; have FB := KB.fz; have bl := KB.lt; have kz := k1.trans hk2))
   (try simp only [Exit.inBlock, Exit.then])
   refine bodyPost_ret (v := .tuple #[plcV ⟨Fn, Fd, Fm⟩, .int .i64 Fe]) ?_ rfl ?_
   ·rw [results_cell_tmp rfl]; unfold plcV; go_simp
   ·refine ⟨by rw [HQ.out], ?_⟩
    (repeat (first | with_reducible assumption | (with_reducible exact Keeps.refl _ _) | (with_reducible refine Keeps.drew ?_) | (with_reducible refine Keeps.alloc ?_ _) | (with_reducible refine Keeps.setCell ?_ (by first | exact Or.inl rfl | exact Or.inr (Nat.le_refl _) | exact Or.inr (by first | (simp; done) | (simp; omega))) _)))
  ·have b1 : (Fe == 0) = true := by simpa using g1
   have b2 : (Fn == 0) = false := by simpa using g2
   clear g2
   go_enter Tryz.func56, Tryz.ntmps56
   go_wp2_with (first | (go_at_call 122; go_loud (refine HW.out.mono ?_); rintro e w2 ⟨rfl, hk2⟩; have KB := c3_new (v0 := .int .i64 0) (v1 := .int .i64 0) (v2 := .string ⟨#[]⟩) hk2; rw [e1] at KB; have B0 := KB.c0; have B1 := KB.c1; have B2 := KB.c2; have FB := KB.fz; have bl := KB.lt; have kz := k1.trans hk2))
   (try simp only [Exit.inBlock, Exit.then])
   refine bodyPost_ret (v := .tuple #[plcV ⟨Fn, Fd, Fm⟩, .int .i64 Fe]) ?_ rfl ?_
   ·rw [results_cell_tmp rfl]; unfold plcV; go_simp
   ·refine ⟨by rw [HQ.out], ?_⟩
    (repeat (first | with_reducible assumption | (with_reducible exact Keeps.refl _ _) | (with_reducible refine Keeps.drew ?_) | (with_reducible refine Keeps.alloc ?_ _) | (with_reducible refine Keeps.setCell ?_ (by first | exact Or.inl rfl | exact Or.inr (Nat.le_refl _) | exact Or.inr (by first | (simp; done) | (simp; omega))) _)))
 ·have HQ := Lib.hid (show thereQ (⟨Fn, Fd, Fm⟩, Fe) = (.no, 12) by unfold thereQ; rw [if_pos ⟨g1, g2⟩])
  have b1 : (Fe == 0) = true := by simpa using g1
  have b2 : (Fn == 0) = true := by simpa using g2
  clear g2
  go_enter Tryz.func56, Tryz.ntmps56
  go_wp2_with (first | (go_at_call 122; go_loud (refine HW.out.mono ?_); rintro e w2 ⟨rfl, hk2⟩; have KB := c3_new (v0 := .int .i64 0) (v1 := .int .i64 0) (v2 := .string ⟨#[]⟩) hk2; rw [e1] at KB; have B0 := KB.c0; have B1 := KB.c1; have B2 := KB.c2; have FB := KB.fz; have bl := KB.lt; have kz := k1.trans hk2))
  (try simp only [Exit.inBlock, Exit.then])
  refine bodyPost_ret (v := .tuple #[plcV .no, .int .i64 12]) ?_ rfl ?_
  ·rw [results_cell_tmp rfl]; unfold plcV Plc.no; go_simp
  ·refine ⟨by rw [HQ.out], ?_⟩
   (repeat (first | with_reducible assumption | (with_reducible exact Keeps.refl _ _) | (with_reducible refine Keeps.drew ?_) | (with_reducible refine Keeps.alloc ?_ _) | (with_reducible refine Keeps.setCell ?_ (by first | exact Or.inl rfl | exact Or.inr (Nat.le_refl _) | exact Or.inr (by first | (simp; done) | (simp; omega))) _)))
theorem there_same {F : Plc × Int} (h : F.2 ≠ 0 -> F.1 = .no) : thereQ F = thereR F := by
 obtain ⟨P, e⟩ := F
 unfold thereQ thereR
 simp only at h ⊢
 by_cases he : e = 0
 ·subst he
  rw [if_neg (show ¬ ((0 : Int) ≠ 0) by simp)]
  by_cases hn : P.node = 0
  ·rw [if_pos ⟨rfl, hn⟩, if_pos hn]
  ·rw [if_neg (fun h => hn h.2), if_neg hn]
 ·rw [if_neg (fun h => he h.1), if_pos he, h he]
theorem thereQ_q (F : Plc × Int) : thereQ (qF F) = thereR F := by
 have h : (qF F).2 = F.2 := by unfold qF; split <;> rfl
 rw [there_same (F := qF F) (fun h0 => by unfold qF; rw [if_neg (by rw [<- h]; exact h0)])]
 unfold thereR
 rw [h]
 by_cases h2 : F.2 ≠ 0
 ·rw [if_pos h2, if_pos h2]
 ·rw [if_neg h2, if_neg h2]
  unfold qF
  rw [if_pos (Classical.not_not.1 h2)]
theorem qF_2 (F : Plc × Int) : (qF F).2 = F.2 := by unfold qF; split <;> rfl
theorem r5findq_any (h : RefAt S w p c d) (hI : DInv d) (hs : smallD d) {up : Int -> Int} (hup : ∀ i u, folderErr d i = 0 -> UpIs d i u -> up i = u) (from' : Int) (s : ByteArray) (follow : Bool) (hsz : s.size <= 4294967280) :
  Calls Tryz.prog 122 #[refV p c d room, .int .i64 from', .string s, .bool follow] w fun e w' =>
   e = .returned (.tuple #[plcV (qF (findR d up follow 41 from' s 0)).1, .int .i64 (findR d up follow 41 from' s 0).2]) ∧ Keeps NoB w w' := by
 have := r5findS_any (room := room) h hI hs hup from' s follow hsz
 rw [findS_q, qF_2] at this
 exact this
theorem r5therer_any (h : RefAt S w p c d) (hI : DInv d) (hs : smallD d) {up : Int -> Int} (hup : ∀ i u, folderErr d i = 0 -> UpIs d i u -> up i = u) (from' : Int) (s : ByteArray) (follow : Bool) (hsz : s.size <= 4294967280) :
  Calls Tryz.prog 56 #[refV p c d room, .int .i64 from', .string s, .bool follow] w fun e w' =>
   e = .returned (.tuple #[plcV (thereR (findR d up follow 41 from' s 0)).1, .int .i64 (thereR (findR d up follow 41 from' s 0)).2]) ∧ Keeps NoB w w' := by
 have := r5thereS_any (room := room) h hI hs hup from' s follow hsz
 rw [findS_q, thereQ_q] at this
 exact this
end
end Go.Proofs.YtijbhmledmnifaaGreatDoor
namespace Go.Proofs.YtijbhmledmnifaaGreatDoor
open Go
theorem sub_bit (x i j : Nat) (h : x.testBit i = true) : (x - 2 ^ i).testBit j = (x.testBit j && !decide (j = i)) := by
 have hp : 0 < 2 ^ i := Nat.two_pow_pos i
 have hb : x % 2 ^ i < 2 ^ i := Nat.mod_lt _ hp
 have hx : x = 2 ^ i * (x / 2 ^ i) + x % 2 ^ i := (Nat.div_add_mod x (2 ^ i)).symm
 have ho : x / 2 ^ i % 2 = 1 := by
  rw [Nat.testBit_eq_decide_div_mod_eq] at h
  exact of_decide_eq_true h
 obtain ⟨a, ha⟩ : ∃ a, x / 2 ^ i = 2 * a + 1 := ⟨x / 2 ^ i / 2, by omega⟩
 generalize x % 2 ^ i = b at *
 rw [ha] at hx
 have hs : x - 2 ^ i = 2 ^ i * (2 * a) + b := by
  rw [hx, Nat.mul_add, Nat.mul_one]; omega
 rw [hs, hx, Nat.testBit_two_pow_mul_add _ hb, Nat.testBit_two_pow_mul_add _ hb]
 by_cases h1 : j < i
 ·rw [if_pos h1, if_pos h1, decide_eq_false (by omega)]; simp
 rw [if_neg h1, if_neg h1]
 by_cases h2 : j = i
 ·subst h2
  rw [Nat.sub_self, decide_eq_true rfl]
  simp
 ·rw [decide_eq_false h2]
  obtain ⟨k, hk⟩ : ∃ k, j - i = k + 1 := ⟨j - i - 1, by omega⟩
  rw [hk, Nat.testBit_succ, Nat.testBit_succ, show 2 * a / 2 = a by omega, show (2 * a + 1) / 2 = a by omega]
  simp
def clr (m mask : Nat) : Nat -> Nat
 | 0 => m
 | i + 1 => if mask.testBit i = true ∧ (clr m mask i).testBit i = true then clr m mask i - 2 ^ i else clr m mask i
theorem clr_bit (m mask : Nat) : ∀ i j, (clr m mask i).testBit j = (m.testBit j && !(decide (j < i) && mask.testBit j))
 | 0, j => by simp [clr]
 | i + 1, j => by
  have ih := clr_bit m mask i
  unfold clr
  split
  ·next h =>
   rw [sub_bit _ _ _ h.2, ih]
   by_cases hj : j = i
   ·subst hj
    simp [h.1]
   ·by_cases h1 : j < i
    ·simp [hj, h1, Nat.lt_succ_of_lt h1]
    ·have : ¬ j < i + 1 := by omega
     simp [hj, h1, this]
  ·next h =>
   rw [ih]
   by_cases hj : j = i
   ·subst hj
    simp only [Nat.lt_irrefl, decide_false, Bool.false_and, Bool.not_false, Bool.and_true, Nat.lt_succ_self, decide_true, Bool.true_and]
    cases hm : mask.testBit j
    ·simp
    ·have h2 : ¬ (clr m mask j).testBit j = true := fun e => h ⟨hm, e⟩
     rw [ih] at h2
     simp at h2
     simp [h2]
   ·by_cases h1 : j < i
    ·simp [h1, Nat.lt_succ_of_lt h1]
    ·have : ¬ j < i + 1 := by omega
     simp [h1, this]
theorem clr_le (m mask : Nat) : ∀ i, clr m mask i <= m
 | 0 => Nat.le_refl _
 | i + 1 => by
  have := clr_le m mask i
  unfold clr
  split
  ·exact Nat.le_trans (Nat.sub_le _ _) this
  ·exact this
theorem bv_nat (a : Nat) (ha : a < 18446744073709551616) : (BitVec.ofInt 64 (a : Int)).toNat = a := by
 rw [BitVec.ofInt_natCast, BitVec.toNat_ofNat]; exact Nat.mod_eq_of_lt (by omega)
theorem bits_and_i64_nat (a b : Nat) (ha : a < 9223372036854775808) (hb : b < 9223372036854775808) : bits .and .i64 (a : Int) (b : Int) = ((a &&& b : Nat) : Int) := by
 have hx : a &&& b < 2 ^ 63 := Nat.and_lt_two_pow _ (by omega)
 show IntKind.i64.wrap ((BitVec.ofInt 64 (a : Int) &&& BitVec.ofInt 64 (b : Int)).toNat : Int) = _
 rw [BitVec.toNat_and, bv_nat a (by omega), bv_nat b (by omega), IntKind.wrap_i64]
 omega
theorem fresh_clr (m mask : Nat) (hm : m < 4096) (hk : mask < 512) : freshM (m : Int) (mask : Int) = ((clr m mask 9 : Nat) : Int) := by
 have h1 : bits BinOp.and IntKind.i64 (mask : Int) 511 = ((mask : Nat) : Int) := by
  have h2 := bits_and_i64_nat mask 511 (by omega) (by omega)
  rw [show ((511 : Nat) : Int) = 511 from rfl] at h2
  rw [h2]
  congr 1
  rw [show (511 : Nat) = 2 ^ 9 - 1 from rfl, Nat.and_two_pow_sub_one_eq_mod]
  exact Nat.mod_eq_of_lt (by omega)
 have hc := clr_le m mask 9
 unfold freshM
 rw [h1]
 show IntKind.i64.wrap ((BitVec.ofInt 64 (m : Int) &&& ~~~ BitVec.ofInt 64 (mask : Int)).toNat : Int) = _
 have h3 : (BitVec.ofInt 64 (m : Int) &&& ~~~ BitVec.ofInt 64 (mask : Int)).toNat = clr m mask 9 := by
  apply Nat.eq_of_testBit_eq
  intro j
  rw [clr_bit]
  have hbm : (BitVec.ofInt 64 (m : Int)).getLsbD j = m.testBit j := by
   show (BitVec.ofInt 64 (m : Int)).toNat.testBit j = _
   rw [bv_nat m (by omega)]
  have hbk : (BitVec.ofInt 64 (mask : Int)).getLsbD j = mask.testBit j := by
   show (BitVec.ofInt 64 (mask : Int)).toNat.testBit j = _
   rw [bv_nat mask (by omega)]
  show (BitVec.ofInt 64 (m : Int) &&& ~~~ BitVec.ofInt 64 (mask : Int)).getLsbD j = _
  rw [BitVec.getLsbD_and, BitVec.getLsbD_not, hbm, hbk]
  by_cases h9 : j < 9
  ·simp [h9, show j < 64 by omega]
  ·have hkj : mask.testBit j = false := Nat.testBit_lt_two_pow (Nat.lt_of_lt_of_le hk (by
    rw [show (512 : Nat) = 2 ^ 9 from rfl]
    exact Nat.pow_le_pow_right (by decide) (by omega)))
   by_cases h64 : j < 64
   ·simp [h9, h64, hkj]
   ·have hmj : m.testBit j = false := Nat.testBit_lt_two_pow (Nat.lt_of_lt_of_le hm (by
     rw [show (4096 : Nat) = 2 ^ 12 from rfl]
     exact Nat.pow_le_pow_right (by decide) (by omega)))
    simp [hmj]
 rw [h3, IntKind.wrap_i64]
 omega
end Go.Proofs.YtijbhmledmnifaaGreatDoor
set_option maxHeartbeats 8000000
namespace Go.Proofs.YtijbhmledmnifaaGreatDoor
open Go Go.RowKit
theorem cell_put4 {w : World} {g b j : Nat} {v : Value} (h : w.cell? ⟨g, j, none⟩ = some v) (hne : ¬ g = b) (v0 v1 v2 v3 : Value) :
  ((((w.setCell ⟨b, 0, none⟩ v0).setCell ⟨b, 1, none⟩ v1).setCell ⟨b, 2, none⟩ v2).setCell ⟨b, 3, none⟩ v3).cell? ⟨g, j, none⟩ = some v :=
 ((kput4 w b v0 v1 v2 v3).cell (p := ⟨g, j, none⟩) (lt_of_cell h) hne).trans h
structure R6 (S : Nat -> Prop) (w : World) (p : Option Addr) (c : Nat) (d : Nds) (calls : Int) : Prop where
 rows : RefAt S w p c d
 all : ∀ g, w.heap.size <= g -> S g
 inv : DInv d
 clean : NoGarb d
 nh : NH d
 ms : mass d + 8 <= 2147483648
 c0 : 0 <= calls
 c1 : calls <= 4611686018427387904
section
variable {S : Nat -> Prop} {w : World} {p : Option Addr} {c : Nat} {d : Nds} {room calls fail : Int}
theorem R6.small (H : R6 S w p c d calls) : smallD d := by have := H.ms; unfold smallD; omega
theorem frE_free (d : Nds) (at' : Int) (s : ByteArray) (slash : Bool) : frE (qF (fndR d at' s false)) slash (endS s) (mayE d (qF (fndR d at' s false)).1.dir 128) = (freeR d at' s slash).2 := by
 unfold freeR
 generalize fndR d at' s false = F
 obtain ⟨P, e⟩ := F
 by_cases h1 : e = 0
 ·subst h1
  rw [show qF (P, 0) = (P, 0) from if_pos rfl]
  unfold frE
  have hz : ¬ ((P, (0 : Int)).2 ≠ 0) := by simp
  rw [if_neg hz, if_neg hz]
  by_cases h2 : P.node ≠ 0
  ·rw [if_pos h2, if_pos h2]
  ·rw [if_neg h2, if_neg h2]
   by_cases h3 : slash = false ∧ endS s = true
   ·rw [if_pos h3, if_pos h3]
   ·rw [if_neg h3, if_neg h3]
 ·rw [show qF (P, e) = (.no, e) from if_neg h1]
  unfold frE
  rw [if_pos h1, if_pos h1]
def FrTo (w : World) (X : Plc × Int) : Ending -> World -> Prop := fun e w' =>
 ∃ P : Plc, e = .returned (.tuple #[.agg #[.int .i64 P.node, .int .i64 P.dir, .string P.name], .int .i64 X.2]) ∧ (X.2 = 0 -> P = X.1) ∧ Keeps NoB w w'
theorem r6fresh_any {wx : World} {p' : Option Addr} {c' : Nat} {S' : Nat -> Prop} {calls' : Int} (H : R6 S w p c d calls) (h : RefAt S' wx p' c' d) (at' mask : Int) (s : ByteArray) (slash : Bool) (hs : s.size <= 4294967280) :
  Calls Tryz.prog 106 #[fV p' c' d.length room calls' fail, .agg #[.int .i64 at', .int .i64 mask], .string s, .bool slash] wx (FrTo wx (freeR d at' s slash)) := by
 have hw := r6fresh_walk (w := wx) (p := p') (c := c') (n := d.length) (room := room) (calls := calls') (fail := fail) (at' := at') (mask := mask) (s := s) (slash := slash) (X := qF (fndR d at' s false)) (me := mayE d (qF (fndR d at' s false)).1.dir 128) (by omega)
  (fun wy k => by
   have := r5findq_any (room := room) (h.keepN k) H.inv H.small (nh_up H.nh H.inv H.clean) at' s false hs
   unfold plcV refV at this
   rw [qF_2]
   exact this)
  (fun wy k => r6may_any (h.keepN k) H.inv _ 7 (by decide))
 refine hw.mono ?_
 rintro e w' ⟨rfl, hk⟩
 refine ⟨(qF (fndR d at' s false)).1, ?_, fun h0 => ?_, hk⟩
 ·rw [frE_free]
 ·unfold freeR at h0 ⊢
  by_cases h1 : (fndR d at' s false).2 = 0
  ·rw [if_neg (fun h => h h1)] at h0 ⊢
   have hq : qF (fndR d at' s false) = fndR d at' s false := if_pos h1
   rw [hq]
   by_cases h2 : (fndR d at' s false).1.node ≠ 0
   ·rw [if_pos h2] at h0; cases h0
   rw [if_neg h2] at h0 ⊢
   by_cases h3 : slash = false ∧ endS s = true
   ·rw [if_pos h3] at h0; cases h0
   rw [if_neg h3]
  ·rw [if_pos h1] at h0
   exact absurd h0 h1
theorem r6mkdir_any (H : R6 S w p c d calls) (at' mask : Int) (s : ByteArray) (m : Int) (hs : s.size <= 4294967280) (hm0 : 0 <= m) (hm1 : m <= 4095) (hk0 : 0 <= mask) (hk1 : mask <= 511) :
  Calls Tryz.prog 46 #[fV p c d.length room calls fail, .agg #[.int .i64 at', .int .i64 mask], .string s, .int .i64 m] w (F6To S w (orFail calls fail d (mkdirR d room at' mask s m)) room (calls + 1) fail) := by
 have HH := Lib.hid H
 have HCa := Lib.hid (r6call_any p c d.length room calls fail H.c0 H.c1)
 unfold fV at *
 obtain ⟨X, hX⟩ : ∃ X, orFail calls fail d (mkdirR d room at' mask s m) = X := ⟨_, rfl⟩
 rw [hX]
 replace hX := Lib.hid hX
 clear H
 go_enter Tryz.func46, Tryz.ntmps46
 go_upto_region 1 with fail
 have HF := Lib.hid (F6.new w (.slice p d.length c) room calls fail #[.int .i64 at', .int .i64 mask] #[.slice none 0 0, .int .i64 0, .int .i64 0, .int .i64 0] 37 46 37)
 generalize ((w.alloc (.cells #[.slice p d.length c, .int .i64 room, .int .i64 calls, .int .i64 fail] 37)).alloc (.cells #[.int .i64 at', .int .i64 mask] 46)).alloc (.cells #[.slice none 0 0, .int .i64 0, .int .i64 0, .int .i64 0] 37) = w0 at *
 obtain ⟨f0, f1, f2, f3, u0, u1, rz0, rz1, rz2, rz3, fl0, fl2, ff0, ff2⟩ := HF.out.all
 by_cases hcf : calls = fail
 case pos =>
  have hx : X = (d, 21) := hX.out.symm.trans (by unfold orFail callE; rw [if_pos hcf, if_pos (by decide)])
  subst hx
  rw [if_pos hcf] at HCa
  clear hX hcf
  go_upto_region 2 with (go_at_call 105; go_loud (refine (HCa.out _).mono ?_); rintro e w1 ⟨rfl, hkn⟩; (clear f0 f1 f2 f3 u0 u1 rz0 rz1 rz2 rz3 fl0 fl2 ff0 ff2; replace HF := Lib.hid (HF.out.on hkn); obtain ⟨f0, f1, f2, f3, u0, u1, rz0, rz1, rz2, rz3, fl0, fl2, ff0, ff2⟩ := HF.out.all))
  replace HF := Lib.hid (HF.out.setF (.slice p d.length c) room (calls + 1) fail)
  clear f0 f1 f2 f3 u0 u1 rz0 rz1 rz2 rz3 fl0 fl2 ff0 ff2
  clear hkn
  generalize (((w1.setCell ⟨w.heap.size, 0, none⟩ (.slice p d.length c)).setCell ⟨w.heap.size, 1, none⟩ (.int .i64 room)).setCell ⟨w.heap.size, 2, none⟩ (.int .i64 (calls + 1))).setCell ⟨w.heap.size, 3, none⟩ (.int .i64 fail) = w2 at *
  obtain ⟨f0, f1, f2, f3, u0, u1, rz0, rz1, rz2, rz3, fl0, fl2, ff0, ff2⟩ := HF.out.all
  go_wp2_with fail
  refine bodyPost_ret (v := .tuple #[.agg #[.slice p d.length c, .int .i64 room, .int .i64 (calls + 1), .int .i64 fail], .int .i64 21]) ?_ rfl ⟨p, c, rfl, HH.out.rows.keepN (HF.out.fin _ _ _ _), HF.out.fin _ _ _ _⟩
  rw [rcell_tmp rfl]
  go_simp
 case neg =>
 have hX2 : X = mkdirR d room at' mask s m := hX.out.symm.trans (by unfold orFail callE; rw [if_neg hcf, if_neg (by decide)])
 rw [if_neg hcf] at HCa
 replace hX := Lib.hid hX2
 clear hcf hX2
 go_upto_region 2 with (go_at_call 105; go_loud (refine (HCa.out _).mono ?_); rintro e w1 ⟨rfl, hkn⟩; (clear f0 f1 f2 f3 u0 u1 rz0 rz1 rz2 rz3 fl0 fl2 ff0 ff2; replace HF := Lib.hid (HF.out.on hkn); obtain ⟨f0, f1, f2, f3, u0, u1, rz0, rz1, rz2, rz3, fl0, fl2, ff0, ff2⟩ := HF.out.all))
 replace HF := Lib.hid (HF.out.setF (.slice p d.length c) room (calls + 1) fail)
 clear f0 f1 f2 f3 u0 u1 rz0 rz1 rz2 rz3 fl0 fl2 ff0 ff2
 clear hkn
 generalize (((w1.setCell ⟨w.heap.size, 0, none⟩ (.slice p d.length c)).setCell ⟨w.heap.size, 1, none⟩ (.int .i64 room)).setCell ⟨w.heap.size, 2, none⟩ (.int .i64 (calls + 1))).setCell ⟨w.heap.size, 3, none⟩ (.int .i64 fail) = w2 at *
 have HR := Lib.hid (HH.out.rows.first (L := [w.heap.size, w.heap.size + 1, w.heap.size + 1 + 1]) HF.out.k (by simp; omega))
 have HFr := Lib.hid (r6fresh_any (room := room) (fail := fail) (calls' := calls + 1) HH.out HR.out at' mask s true hs)
 unfold mkdirR at hX
 have hfo := fun he : (freeR d at' s true).2 = 0 => freeR_ok (d := d) (at' := at') (s := s) (slash := true) (p := (freeR d at' s true).1) (by rw [<- he])
 obtain ⟨Y, hY⟩ : ∃ Y, freeR d at' s true = Y := ⟨_, rfl⟩
 rw [hY] at HFr hX hfo
 clear hY
 obtain ⟨⟨yn, yd, ym⟩, ye⟩ := Y
 unfold FrTo fV at HFr
 simp only at HFr hX hfo
 obtain ⟨f0, f1, f2, f3, u0, u1, rz0, rz1, rz2, rz3, fl0, fl2, ff0, ff2⟩ := HF.out.all
 go_upto_region 5 with (go_at_call 106; go_loud (refine HFr.out.mono ?_); rintro e w3 ⟨⟨qn, qd, qm⟩, rfl, hq, hkn⟩; (clear f0 f1 f2 f3 u0 u1 rz0 rz1 rz2 rz3 fl0 fl2 ff0 ff2; replace HF := Lib.hid (HF.out.on hkn); obtain ⟨f0, f1, f2, f3, u0, u1, rz0, rz1, rz2, rz3, fl0, fl2, ff0, ff2⟩ := HF.out.all))
 have hpb : w.heap.size + 3 <= w3.heap.size := by omega
 have HP := Lib.hid (Bk.new (Keeps.refl NoB (w3.alloc (.cells #[.int .i64 qn, .int .i64 qd, .string qm] 129))))
 replace HF := Lib.hid (HF.out.on ((Keeps.refl NoB w3).alloc (.cells #[.int .i64 qn, .int .i64 qd, .string qm] 129)))
 replace HR := Lib.hid ((HR.out.keepN hkn).keepN ((Keeps.refl NoB w3).alloc (.cells #[.int .i64 qn, .int .i64 qd, .string qm] 129)))
 replace hq := Lib.hid hq
 clear f0 f1 f2 f3 u0 u1 rz0 rz1 rz2 rz3 fl0 fl2 ff0 ff2
 clear hkn HFr HCa
 generalize w3.alloc (.cells #[.int .i64 qn, .int .i64 qd, .string qm] 129) = w4 at *
 generalize w3.heap.size = PB at *
 obtain ⟨f0, f1, f2, f3, u0, u1, rz0, rz1, rz2, rz3, fl0, fl2, ff0, ff2⟩ := HF.out.all
 by_cases hye : ye = 0
 case neg =>
  have hb : (ye != 0) = true := by simpa using hye
  obtain rfl : X = (d, ye) := hX.out.trans (if_pos hye)
  clear hX hye hq hfo
  go_wp2_with fail
  refine bodyPost_ret (v := .tuple #[.agg #[.slice p d.length c, .int .i64 room, .int .i64 (calls + 1), .int .i64 fail], .int .i64 ye]) ?_ rfl ⟨p, c, rfl, HH.out.rows.keepN (HF.out.fin _ _ _ _), HF.out.fin _ _ _ _⟩
  rw [rcell_tmp rfl]
  go_simp
 case pos =>
  subst hye
  have hx2 := hX.out.trans (if_neg (by simp))
  have hqq := hq.out rfl
  cases hqq
  obtain ⟨o1, o2, o3, o4, o5⟩ := hfo rfl
  have o3' : yn = 0 := o3
  clear o3 o4 o5
  subst o3'
  obtain ⟨mn, rfl⟩ : ∃ mn : Nat, m = mn := ⟨m.toNat, by omega⟩
  obtain ⟨kn, rfl⟩ : ∃ kn : Nat, mask = kn := ⟨mask.toNat, by omega⟩
  have HFm : Hid (∀ wx, Calls Tryz.prog 108 #[.int .i64 (mn : Int), .int .i64 (kn : Int)] wx fun e w' => e = .returned (.int .i64 (freshM mn kn)) ∧ w' = wx) := Lib.hid fun wx => by
   have := r1fresh_any (CL := clr) (fun _ _ => rfl) (fun _ _ _ => rfl) clr_le mn kn (by omega) (by omega) wx
   rw [<- fresh_clr mn kn (by omega) (by omega)] at this
   exact this
  have hne : yd ≠ d.length := fun e => by
   have := has_range o1
   omega
  have HMd : Hid (∀ wx, Keeps NoB w4 wx -> Calls Tryz.prog 107 #[fV p c d.length room (calls + 1) fail, .agg #[.int .i64 0, .int .i64 yd, .string ym], .int .i64 2, .int .i64 (freshM mn kn), .string ⟨#[]⟩] wx (F6To (NI S [w.heap.size, w.heap.size + 1, w.heap.size + 1 + 1]) wx X room (calls + 1) fail)) := Lib.hid fun wx k => by
   rw [hx2]
   exact r6made_any (HR.out.keepN k) (NI.new HH.out.all (HF.out.k.trans k) (by have := HF.out.b2.lt; have := k.size; simp; omega)) HH.out.inv HH.out.clean (by have := HH.out.ms; omega) ⟨0, yd, ym⟩ hne o2 2 (freshM mn kn) ⟨#[]⟩ (by decide)
  unfold F6To fV at HMd
  clear hX hq hfo hx2 o1 o2 hne
  generalize freshM (mn : Int) (kn : Int) = fm at *
  have p0 := HP.out.cell 0 _ rfl
  have p1 := HP.out.cell 1 _ rfl
  have p2 := HP.out.cell 2 _ rfl
  go_upto_region 7 with fail
  have HFd := Lib.hid (HF.out.on (Keeps.refl NoB w4).drew)
  have HPd := Lib.hid (HP.out.on (Keeps.refl NoB w4).drew)
  clear f0 f1 f2 f3 u0 u1 rz0 rz1 rz2 rz3 fl0 fl2 ff0 ff2
  clear p0 p1 p2
  have d0 := HFd.out.b0.cell 0 _ rfl
  have d1 := HFd.out.b0.cell 1 _ rfl
  have d2 := HFd.out.b0.cell 2 _ rfl
  have d3 := HFd.out.b0.cell 3 _ rfl
  have d4 := HPd.out.cell 0 _ rfl
  have d5 := HPd.out.cell 1 _ rfl
  have d6 := HPd.out.cell 2 _ rfl
  have d7 := HFd.out.b1.cell 1 _ rfl
  go_region_held3 (fun wz => wz.cell? ⟨w.heap.size, 0, none⟩ = some (.slice p d.length c) ∧ wz.cell? ⟨w.heap.size, 1, none⟩ = some (.int .i64 room) ∧ wz.cell? ⟨w.heap.size, 2, none⟩ = some (.int .i64 (calls + 1)) ∧ wz.cell? ⟨w.heap.size, 3, none⟩ = some (.int .i64 fail) ∧ wz.cell? ⟨PB, 0, none⟩ = some (.int .i64 0) ∧ wz.cell? ⟨PB, 1, none⟩ = some (.int .i64 yd) ∧ wz.cell? ⟨PB, 2, none⟩ = some (.string ym) ∧ wz.cell? ⟨w.heap.size + 1, 1, none⟩ = some (.int .i64 (kn : Int)))
   (refine ⟨?_, ?_, ?_, ?_, ?_, ?_, ?_, ?_⟩ <;> first | with_reducible assumption | (with_reducible refine cell_put4 ?_ ?_ _ _ _ _ <;> first | with_reducible assumption | omega))
   (first
    | (go_at_call 108; refine (HFm.out _).mono ?_; rintro e wf ⟨rfl, rfl⟩)
    | (go_at_call 107; refine (HMd.out _ (by (repeat (first | with_reducible assumption | (with_reducible exact Keeps.refl _ _) | (with_reducible refine Keeps.drew ?_) | (with_reducible refine Keeps.drewN ?_ _))))).mono ?_; rintro e w5 ⟨p3, c3, rfl, hr5, hk5⟩; have zk : Keeps NoB w4 w5 := Keeps.trans (by (repeat (first | with_reducible assumption | (with_reducible exact Keeps.refl _ _) | (with_reducible refine Keeps.drew ?_) | (with_reducible refine Keeps.drewN ?_ _)))) hk5; have HF5 := Lib.hid (HF.out.on zk); have HP5 := Lib.hid (HP.out.on zk); have z0 := HF5.out.b0.cell 0 _ rfl; have z1 := HF5.out.b0.cell 1 _ rfl; have z2 := HF5.out.b0.cell 2 _ rfl; have z3 := HF5.out.b0.cell 3 _ rfl; have z4 := HP5.out.cell 0 _ rfl; have z5 := HP5.out.cell 1 _ rfl; have z6 := HP5.out.cell 2 _ rfl; have z7 := HF5.out.b1.cell 1 _ rfl; have rz0 := HF5.out.b2.cell 0 _ rfl; have rz1 := HF5.out.b2.cell 1 _ rfl; have rz2 := HF5.out.b2.cell 2 _ rfl; have rz3 := HF5.out.b2.cell 3 _ rfl; have fl2 := HF5.out.b2.lt; have ff2 := HF5.out.b2.fz))
  all_goals
   go_wp2_with fail
   refine bodyPost_ret (v := .tuple #[.agg #[.slice p3 X.1.length c3, .int .i64 room, .int .i64 (calls + 1), .int .i64 fail], .int .i64 X.2]) ?_ rfl ⟨p3, c3, rfl, (hr5.put (kput4 w5 (w.heap.size + 1 + 1) _ _ _ _) (by simp)).drop, HF5.out.fin _ _ _ _⟩
   rw [rcell_tmp rfl]
   go_simp
end
structure PD (N : Nat -> Prop) (w : World) (a : Nat) (d : Nds) (room : Int) : Prop where
 low : ∀ x, N x -> x < w.heap.size
 ex : ∃ R : RD, IsDisk R w a d room ∧ ∀ x, N x -> R.tag x = .none
section
variable {N : Nat -> Prop} {w w' : World} {a : Nat} {d d' : Nds} {room : Int}
theorem PD.inv (h : PD N w a d room) : DInv d := by obtain ⟨R, h1, _⟩ := h.ex; exact h1.inv
theorem PD.clean (h : PD N w a d room) : NoGarb d := by obtain ⟨R, h1, _⟩ := h.ex; exact h1.clean
theorem PD.small (h : PD N w a d room) : smallD d := by obtain ⟨R, h1, _⟩ := h.ex; exact h1.small
theorem tag_top {R : RD} (h : IsDisk R w a d room) : ∀ x, w.heap.size <= x -> R.tag x = .none := by
 obtain ⟨⟨lk, up, hC⟩, _, _, _⟩ := h
 exact hC.rep.top
theorem HereTo.pd {W : World} (h : HereTo W w a d room) : PD (fun g => g < W.heap.size) w a d room := by
 obtain ⟨R, h⟩ := h
 exact ⟨fun x hx => Nat.lt_of_lt_of_le hx h.keeps.size, R, h.disk, h.tag⟩
theorem PD.grow {N' F : Nat -> Prop} (h : PD N w a d room) (k : Keeps F w w') (hF : ∀ x, x < w.heap.size -> F x -> N x) (hN : ∀ x, N' x -> N x ∨ (w.heap.size <= x ∧ x < w'.heap.size)) : PD N' w' a d room := by
 obtain ⟨R, h1, h2⟩ := h.ex
 have hs := k.size
 refine ⟨fun x hx => ?_, R, h1.keep k (fun x hl hx => h2 x (hF x hl hx)), fun x hx => ?_⟩
 ·rcases hN x hx with h4 | h4
  ·exact Nat.lt_of_lt_of_le (h.low x h4) hs
  ·exact h4.2
 ·rcases hN x hx with h4 | h4
  ·exact h2 x h4
  ·exact tag_top h1 x h4.1
theorem PD.keep {F : Nat -> Prop} (h : PD N w a d room) (k : Keeps F w w') (hF : ∀ x, x < w.heap.size -> F x -> N x) : PD N w' a d room := h.grow k hF (fun _ hx => .inl hx)
theorem PD.on (h : PD N w a d room) (k : Keeps NoB w w') : PD N w' a d room := h.keep k (fun _ _ hx => hx.elim)
theorem PD.less {N' : Nat -> Prop} (h : PD N w a d room) (hN : ∀ x, N' x -> N x) : PD N' w a d room := h.grow (Keeps.refl NoB w) (fun _ _ hx => hx.elim) (fun x hx => .inl (hN x hx))
theorem PD.prog {f : Nat} {args : Array Value} {E : Ending} (h : PD N w a d room) (hc : ∀ R, IsDisk R w a d room -> Calls Tryz.prog f args w fun e w' => e = E ∧ DiskTo R w a d' room w') :
  Calls Tryz.prog f args w fun e w' => e = E ∧ PD N w' a d' room ∧ Keeps (fun g => ¬ N g) w w' := by
 obtain ⟨R, h1, h2⟩ := h.ex
 refine (hc R h1).mono ?_
 rintro e w' ⟨rfl, R', h4, h5⟩
 have hs := h5.keeps.size
 exact ⟨rfl, ⟨fun x hx => Nat.lt_of_lt_of_le (h.low x hx) hs, R', h4, fun x hx => by rw [h5.same x (h.low x hx)]; exact h2 x hx⟩, h5.keeps.mono (fun x _ hx hN => hx (h2 x hN))⟩
theorem PD.tells {f : Nat} {args : Array Value} {Q : Ending -> World -> Prop} (h : PD N w a d room)
  (hc : ∀ R lk up, Rep R w a d room (used d) lk up -> (∀ i, has d i -> lk i = ((links d i : Nat) : Int)) -> UpEq d up (upC d) -> Calls Tryz.prog f args w Q) : Calls Tryz.prog f args w Q := by
 obtain ⟨R, ⟨⟨lk, up, hC⟩, _, _, _⟩, h2⟩ := h.ex
 have hlk : ∀ i, has d i -> lk i = ((links d i : Nat) : Int) := fun i hi => by have := hC.cnt i hi; simpa [zp] using this
 refine hc R lk up hC.rep hlk fun i hf => ?_
 obtain ⟨hi, hk⟩ := folderErr_zero hf
 obtain ⟨p1, p2, p3⟩ := hC.upok i hi
 by_cases h1 : i = 1
 ·subst h1
  rw [p2 rfl]
  unfold upC
  rw [if_pos rfl]
 ·by_cases hp : ∃ j, Par d j i
  ·obtain ⟨j, hj⟩ := hp
   rw [p1 j hj, upC_par hC.inv h1 hj (fun ha hb => hC.inv.par_one ha hb)]
  ·rw [upC_none h1 hp]
   refine p3 ?_
   rw [hlk i hi]
   have : cnt d i = 0 := Nat.eq_zero_of_not_pos fun h0 => by
    obtain ⟨j, e, he, hei⟩ := cnt_pos.1 h0
    exact hp ⟨j, hk, e, he, hei⟩
   unfold links
   rw [this, if_neg h1]
   rfl
end
structure FSt (N : Nat -> Prop) (w : World) (F a : Nat) (d : Nds) (room calls fail : Int) : Prop where
 pd : PD (fun g => N g ∨ g = F) w a d room
 notN : ¬ N F
 c0 : w.cell? ⟨F, 0, none⟩ = some (.pointer (some ⟨a, 0, none⟩))
 c1 : w.cell? ⟨F, 1, none⟩ = some (.int .i64 calls)
 c2 : w.cell? ⟨F, 2, none⟩ = some (.int .i64 fail)
 fz : ∀ j, w.frozen? ⟨F, j, none⟩ = false
section
variable {N : Nat -> Prop} {w w' : World} {F a : Nat} {d d' : Nds} {room calls fail : Int}
theorem FSt.lt (h : FSt N w F a d room calls fail) : F < w.heap.size := h.pd.low F (.inr rfl)
theorem FSt.low (h : FSt N w F a d room calls fail) (x : Nat) (hx : N x) : x < w.heap.size := h.pd.low x (.inl hx)
theorem FSt.turn {G : Nat -> Prop} (h : FSt N w F a d room calls fail) (hp : PD (fun g => N g ∨ g = F) w' a d' room) (k : Keeps G w w') (hG : ¬ G F) : FSt N w' F a d' room calls fail :=
 ⟨hp, h.notN, (k.cell (p := ⟨F, 0, none⟩) h.lt hG).trans h.c0, (k.cell (p := ⟨F, 1, none⟩) h.lt hG).trans h.c1, (k.cell (p := ⟨F, 2, none⟩) h.lt hG).trans h.c2, fun j => (k.frozen (p := ⟨F, j, none⟩) h.lt hG).trans (h.fz j)⟩
theorem FSt.keep {G : Nat -> Prop} (h : FSt N w F a d room calls fail) (k : Keeps G w w') (hG : ∀ x, G x -> N x) : FSt N w' F a d room calls fail :=
 h.turn (h.pd.keep k (fun x _ hx => .inl (hG x hx))) k (fun hx => h.notN (hG F hx))
theorem FSt.on (h : FSt N w F a d room calls fail) (k : Keeps NoB w w') : FSt N w' F a d room calls fail := h.keep k (fun _ hx => hx.elim)
theorem FSt.more (h : FSt N w F a d room calls fail) (k : Keeps NoB w w') (b : Nat) (h1 : w.heap.size <= b) (h2 : b < w'.heap.size) : FSt (fun g => N g ∨ g = b) w' F a d room calls fail := by
 have h3 := h.on k
 have hl := h.lt
 refine ⟨h.pd.grow k (fun _ _ hx => hx.elim) (fun x hx => ?_), fun hx => hx.elim h.notN (fun e => by omega), h3.c0, h3.c1, h3.c2, h3.fz⟩
 rcases hx with (hx | rfl) | rfl
 ·exact .inl (.inl hx)
 ·exact .inr ⟨h1, h2⟩
 ·exact .inl (.inr rfl)
theorem FSt.less {N' : Nat -> Prop} (h : FSt N w F a d room calls fail) (hN : ∀ x, N' x -> N x) : FSt N' w F a d room calls fail :=
 ⟨h.pd.less (fun x hx => hx.elim (fun hx => .inl (hN x hx)) .inr), fun hx => h.notN (hN F hx), h.c0, h.c1, h.c2, h.fz⟩
theorem FSt.called (h : FSt N w F a d room calls fail) (c' : Int) : FSt N (w.setCell ⟨F, 1, none⟩ (.int .i64 c')) F a d room c' fail := by
 have k := keeps_set w ⟨F, 1, none⟩ (.int .i64 c')
 have a0 := cell_set (g := F) (k := 1) (u := .int .i64 c') (j := 0) h.c0
 have a1 := cell_set (g := F) (k := 1) (u := .int .i64 c') (j := 1) h.c1
 have a2 := cell_set (g := F) (k := 1) (u := .int .i64 c') (j := 2) h.c2
 rw [if_neg (by decide)] at a0
 rw [if_pos rfl] at a1
 rw [if_neg (by decide)] at a2
 exact ⟨h.pd.keep k (fun x _ hx => .inr hx), h.notN, a0, a1, a2, fun j => (frozen_set _ _ _ _).trans (h.fz j)⟩
theorem FSt.prog {f : Nat} {args : Array Value} {E : Ending} (h : FSt N w F a d room calls fail) (hc : ∀ R, IsDisk R w a d room -> Calls Tryz.prog f args w fun e w' => e = E ∧ DiskTo R w a d' room w') :
  Calls Tryz.prog f args w fun e w' => e = E ∧ FSt N w' F a d' room calls fail ∧ Keeps (fun g => ¬ (N g ∨ g = F)) w w' := by
 refine (h.pd.prog hc).mono ?_
 rintro e w' ⟨rfl, h1, h2⟩
 exact ⟨rfl, h.turn h1 h2 (fun hx => hx (.inr rfl)), h2⟩
theorem FSt.find (h : FSt N w F a d room calls fail) (from' : Int) (s : ByteArray) (follow : Bool) (hsz : s.size <= 4294967280) :
  Calls Tryz.prog 123 #[.pointer (some ⟨a, 0, none⟩), .int .i64 from', .string s, .bool follow] w fun e w' =>
   e = .returned (.tuple #[plcV (findR d (upC d) follow 41 from' s 0).1, .int .i64 (findR d (upC d) follow 41 from' s 0).2]) ∧ Keeps NoB w w' :=
 h.pd.tells fun R lk up hR _ hup => by
  rw [<- find_up hup]
  exact wfind_any hR h.pd.inv h.pd.small from' s follow hsz
theorem FSt.there (h : FSt N w F a d room calls fail) (from' : Int) (s : ByteArray) (follow : Bool) (hsz : s.size <= 4294967280) :
  Calls Tryz.prog 72 #[.pointer (some ⟨a, 0, none⟩), .int .i64 from', .string s, .bool follow] w fun e w' =>
   e = .returned (.tuple #[plcV (thereR (findR d (upC d) follow 41 from' s 0)).1, .int .i64 (thereR (findR d (upC d) follow 41 from' s 0)).2]) ∧ Keeps NoB w w' :=
 h.pd.tells fun R lk up hR _ hup => by
  rw [<- find_up hup]
  exact wthere_any hR h.pd.inv h.pd.small from' s follow hsz
def infoAt (d : Nds) (i : Int) : Value := if has d i then infoV (nd d i) ((links d i : Nat) : Int) else noInfo
theorem FSt.info (h : FSt N w F a d room calls fail) (i : Int) :
  Calls Tryz.prog 42 #[.pointer (some ⟨a, 0, none⟩), .int .i64 i] w fun e w' => e = .returned (.tuple #[infoAt d i, .int .i64 (if has d i then 0 else 12)]) ∧ Keeps NoB w w' :=
 h.pd.tells fun R lk up hR hlk _ => by
  have := info_any hR i
  unfold infoAt
  by_cases hi : has d i
  ·rw [if_pos hi, if_pos hi] at this ⊢
   rw [<- hlk i hi]
   exact this
  ·rw [if_neg hi, if_neg hi] at this ⊢
   exact this
end
set_option maxHeartbeats 4000000
section
variable {N : Nat -> Prop} {w w' : World} {F a : Nat} {d d' : Nds} {room calls fail : Int}
structure Bx (w : World) (B : Nat) (l : List Value) : Prop where
 lt : B < w.heap.size
 cell : ∀ i v, l[i]? = some v -> w.cell? ⟨B, i, none⟩ = some v
 fz : ∀ j, w.frozen? ⟨B, j, none⟩ = false
theorem Bx.new {cs : Array Value} {T : TypeId} (k : Keeps NoB (w.alloc (.cells cs T)) w') : Bx w' w.heap.size cs.toList :=
 ⟨Nat.lt_of_lt_of_le (by simp) k.size, fun i v hv => boxed k i v (by rw [<- Array.getElem?_toList]; exact hv), boxedz k⟩
theorem Bx.keep {G : Nat -> Prop} {B : Nat} {l : List Value} (h : Bx w B l) (k : Keeps G w w') (hB : ¬ G B) : Bx w' B l :=
 ⟨Nat.lt_of_lt_of_le h.lt k.size, fun i v hv => (k.cell (p := ⟨B, i, none⟩) h.lt hB).trans (h.cell i v hv), fun j => (k.frozen (p := ⟨B, j, none⟩) h.lt hB).trans (h.fz j)⟩
theorem Bx.on {B : Nat} {l : List Value} (h : Bx w B l) (k : Keeps NoB w w') : Bx w' B l := h.keep k (fun h => h)
theorem Bx.newD {cs : Array Value} {T : TypeId} (k : Keeps NoB (w.alloc (.cells cs T)).drew w') : Bx w' w.heap.size cs.toList := Bx.new ((Keeps.refl NoB _).drew.trans k)
theorem Bx.put {B : Nat} {l : List Value} (h : Bx w B l) (i : Nat) (v : Value) : Bx (w.setCell ⟨B, i, none⟩ v) B (l.set i v) := by
 refine ⟨by simpa using h.lt, fun j u hu => ?_, fun j => (frozen_set _ _ _ _).trans (h.fz j)⟩
 rw [List.getElem?_set] at hu
 split at hu
 ·next e =>
  subst e
  split at hu
  ·next hl =>
   cases hu
   have := cell_set (g := B) (k := i) (u := v) (j := i) (h.cell i _ (List.getElem?_eq_getElem hl))
   rw [if_pos rfl] at this
   exact this
  ·cases hu
 ·next e =>
  have := cell_set (g := B) (k := i) (u := v) (j := j) (h.cell j u hu)
  rw [if_neg (fun x => e x.symm)] at this
  exact this
theorem FSt.thr (h : FSt N w F a d room calls fail) (from' : Int) (s : ByteArray) (follow : Bool) (hsz : s.size <= 4294967280) :
  Calls Tryz.prog 72 #[.pointer (some ⟨a, 0, none⟩), .int .i64 from', .string s, .bool follow] w fun e w' =>
   e = .returned (.tuple #[plcV (thrR d from' s follow).1, .int .i64 (thrR d from' s follow).2]) ∧ Keeps NoB w w' := h.there from' s follow hsz
theorem FSt.fnd (h : FSt N w F a d room calls fail) (from' : Int) (s : ByteArray) (follow : Bool) (hsz : s.size <= 4294967280) :
  Calls Tryz.prog 123 #[.pointer (some ⟨a, 0, none⟩), .int .i64 from', .string s, .bool follow] w fun e w' =>
   e = .returned (.tuple #[plcV (fndR d from' s follow).1, .int .i64 (fndR d from' s follow).2]) ∧ Keeps NoB w w' := h.find from' s follow hsz
theorem FSt.wider (h : FSt N w F a d room calls fail) (k : Keeps NoB w w') : ∃ N1 : Nat -> Prop, (∀ g, N g -> N1 g) ∧ (∀ g, w.heap.size <= g -> g < w'.heap.size -> N1 g) ∧ FSt N1 w' F a d room calls fail := by
 have h3 := h.on k
 have hl := h.lt
 refine ⟨fun g => N g ∨ (w.heap.size <= g ∧ g < w'.heap.size), fun g hg => .inl hg, fun g h1 h2 => .inr ⟨h1, h2⟩, h.pd.grow k (fun _ _ hx => hx.elim) (fun x hx => ?_), fun hx => hx.elim h.notN (fun e => by omega), h3.c0, h3.c1, h3.c2, h3.fz⟩
 rcases hx with (hx | hx) | rfl
 ·exact .inl (.inl hx)
 ·exact .inr hx
 ·exact .inl (.inr rfl)
def FTo (N : Nat -> Prop) (w : World) (F a : Nat) (d' : Nds) (room calls' fail : Int) (V : Value) : Ending -> World -> Prop := fun e w' =>
 e = .returned V ∧ FSt N w' F a d' room calls' fail ∧ Keeps (fun g => ¬ N g) w w'
theorem FSt.prog2 {f : Nat} {args : Array Value} {V : Value} (h : FSt N w F a d room calls fail) (hc : ∀ R, IsDisk R w a d room -> Calls Tryz.prog f args w fun e w' => e = .returned V ∧ DiskTo R w a d' room w') :
  Calls Tryz.prog f args w (FTo N w F a d' room calls fail V) :=
 (h.prog hc).mono fun e w' ⟨h1, h2, h3⟩ => ⟨h1, h2, h3.mono fun x _ hx hN => hx (.inl hN)⟩
theorem call_any (h : FSt N w F a d room calls fail) (h0 : 0 <= calls) (h1 : calls <= 4611686018427387904) :
  Calls Tryz.prog 100 #[.pointer (some ⟨F, 0, none⟩)] w (FTo N w F a d room (calls + 1) fail (.int .i64 (callE calls fail))) := by
 have FS := h
 have hw1 : IntKind.i64.wrap (calls + 1) = calls + 1 := by rw [IntKind.wrap_i64]; omega
 have hw2 : IntKind.i64.wrap (calls + 1 - 1) = calls := by rw [IntKind.wrap_i64]; omega
 have hk : Keeps (fun g => ¬ N g) w (w.setCell ⟨F, 1, none⟩ (.int .i64 (calls + 1))) := (Keeps.refl _ _).setCell (p := ⟨F, 1, none⟩) (.inl h.notN) _
 have HC := h.called (calls + 1)
 have f0 := FS.c0; have f1 := FS.c1; have f2 := FS.c2; have fz := FS.fz; have fl := FS.lt
 clear h
 go_enter Tryz.func100, Tryz.ntmps100
 go_upto_region 2 with fail
 clear f0 f1 f2 fz fl
 clear FS
 have FS := HC
 have f0 := FS.c0; have f1 := FS.c1; have f2 := FS.c2; have fz := FS.fz; have fl := FS.lt
 generalize w.setCell ⟨F, 1, none⟩ (.int .i64 (calls + 1)) = w2 at *
 by_cases hc : calls = fail
 ·have hb : (calls == fail) = true := by simpa using hc
  go_quiet (fail)
  go_wp2
  go_ret
  exact ⟨ret_i64 (by unfold callE; rw [if_pos hc]), FS.on ((Keeps.refl _ _).drewN _), hk.trans ((Keeps.refl _ _).drewN _)⟩
 ·have hb : (calls == fail) = false := by simpa using hc
  go_quiet (fail)
  go_wp2
  go_ret
  exact ⟨ret_i64 (by unfold callE; rw [if_neg hc]), FS.on ((Keeps.refl _ _).drewN _), hk.trans ((Keeps.refl _ _).drewN _)⟩
theorem fresh_any (m mask : Int) (w : World) :
  Calls Tryz.prog 103 #[.int .i64 m, .int .i64 mask] w fun e w' => e = .returned (.int .i64 (freshM m mask)) ∧ w = w' := by
 go_enter Tryz.func103, Tryz.ntmps103
 go_wp2
 go_ret
 exact ⟨rfl, rfl⟩
theorem FSt.tell (h : FSt N w F a d room calls fail) (i : Int) :
  ∃ k m l hh z : Int, k = (nd d i).kind ∧ (has d i -> m = (nd d i).mode) ∧ (¬ has d i -> m = 0) ∧ infoAt d i = .agg #[.int .i64 k, .int .i64 m, .int .i64 l, .int .i64 hh, .int .i64 z] := by
 by_cases hi : has d i
 ·exact ⟨_, _, _, _, _, rfl, fun _ => rfl, fun h => absurd hi h, by unfold infoAt infoV; rw [if_pos hi]⟩
 ·refine ⟨0, 0, 0, 0, 0, (not_has hi).symm ▸ rfl, fun h => absurd h hi, fun _ => rfl, by unfold infoAt noInfo; rw [if_neg hi]⟩
theorem bitsB (b : Nat) (n : Fin 4096) : (b = 64 ∨ b = 128 ∨ b = 256) -> (bits BinOp.and IntKind.i64 (n.val : Int) (b : Int) == 0) = decide ((n.val : Int) / (b : Int) % 2 = 0) := by
 rintro (rfl | rfl | rfl)
 ·revert n; decide +kernel
 ·revert n; decide +kernel
 ·revert n; decide +kernel
theorem bitsB_of (b : Nat) (hb : b = 64 ∨ b = 128 ∨ b = 256) (m : Int) (h0 : 0 <= m) (h1 : m <= 4095) : (bits BinOp.and IntKind.i64 m (b : Int) == 0) = decide (m / (b : Int) % 2 = 0) := by
 have := bitsB b ⟨m.toNat, by omega⟩ hb
 simp only [Int.toNat_of_nonneg h0] at this
 exact this
theorem may_any (h : FSt N w F a d room calls fail) (i : Int) (b : Nat) (hb : b = 64 ∨ b = 128 ∨ b = 256) :
  Calls Tryz.prog 133 #[.pointer (some ⟨F, 0, none⟩), .int .i64 i, .int .i64 (b : Int)] w fun e w' => e = .returned (.int .i64 (mayE d i b)) ∧ Keeps NoB w w' := by
 obtain ⟨k, m, l, hh, z, hk, hm, hm0, he⟩ := h.tell i
 have HI := Lib.hid (h.info i)
 have HE := Lib.hid (show mayE d i b = if ¬ has d i then 12 else if (bits BinOp.and IntKind.i64 m (b : Int) == 0) = true then 19 else 0 by
  unfold mayE
  by_cases hi : has d i
  ·rw [hm hi, bitsB_of b hb _ ((h.pd.inv.node i).mode0) ((h.pd.inv.node i).mode1)]
   simp [hi]
  ·simp [hi])
 have HH : has d i ∨ ¬ has d i := Classical.em _
 have FS := h
 have f0 := FS.c0; have f1 := FS.c1; have f2 := FS.c2; have fz := FS.fz; have fl := FS.lt
 clear h hk hm hm0
 rw [he] at HI
 generalize (b : Int) = bb at *
 rcases HH with hi | hi
 ·simp only [if_pos hi] at HI
  go_enter Tryz.func133, Tryz.ntmps133
  go_wp2_with (go_at_call 42; go_loud (refine HI.out.mono ?_); rintro e w2 ⟨rfl, hk2⟩)
  all_goals
   go_ret
   refine ⟨ret_i64 ?_, hk2.alloc _⟩
   rw [HE.out, if_neg (by simpa using hi)]
   simp_all
 ·simp only [if_neg hi] at HI
  go_enter Tryz.func133, Tryz.ntmps133
  go_wp2_with (go_at_call 42; go_loud (refine HI.out.mono ?_); rintro e w2 ⟨rfl, hk2⟩)
  all_goals
   go_ret
   refine ⟨ret_i64 ?_, hk2.alloc _⟩
   rw [HE.out, if_pos hi]
end
end Go.Proofs.YtijbhmledmnifaaGreatDoor
