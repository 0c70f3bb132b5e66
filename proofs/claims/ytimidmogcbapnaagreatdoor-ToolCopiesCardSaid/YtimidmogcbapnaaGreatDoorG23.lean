/-
  Layer 23's statements: the document's example.
-/
import Derived.Test.YtimidmogcbapnaaGreatDoorG22
import Derived.Test.YtimidmogcbapnaaGreatDoorG20
import Derived.Test.YtimidmogcbapnaaGreatDoorG06
import Derived.Test.YtimidmogcbapnaaGreatDoorG12
import Derived.Test.YtimidmogcbapnaaGreatDoorG14
import Derived.Test.YtimidmogcbapnaaGreatDoorG15
import Derived.Test.YtimidmogcbapnaaGreatDoorG21
import Derived.Defers

set_option linter.unusedSimpArgs false
set_option linter.unusedVariables false
set_option maxRecDepth 100000
set_option maxHeartbeats 8000000
namespace Go.Proofs.YtimidmogcbapnaaGreatDoor
open Go Go.RowKit
section
variable {W : World} {Q : Nat -> Prop} {F a : Nat} {room calls fail : Int}
theorem t23mkdir {w : World} (h : FSx W Q w F a tA0 100 0 (-1)) {p : Option Addr} {c : Nat} {S : Nat -> Prop} (hA : SlAt encStr S w p c [⟨#[45, 112]⟩, ⟨#[97, 47, 98]⟩]) (bt : TypeId) (bv : Value) :
 Calls Tryz.prog 11 #[.string ⟨#[109, 107, 100, 105, 114]⟩, .slice p 2 c, .pointer (some ⟨F, 0, none⟩), .agg #[.int .i64 1, .int .i64 0], .iface bt bv] w (FXo W Q w F a tA2 100 2 (-1) (.agg #[.string ⟨#[]⟩, .string ⟨#[]⟩, .int .i64 0])) := by
 have h1 := tA_mk1 h.inv h.clean
 refine run_mkdir h fun Q' w1 B ht hk => ?_
 refine mkdir_p (d1 := tA1) (d2 := tA2) (x := ⟨#[97]⟩) ht (hA.keepN hk) (by decide) (by decide) (by decide) (by decide) (by decide) (by decide) (by decide) (by decide) (by decide) (by decide) tA_thr_a0.1 tA_thr_a0.2.2 tA_thr_a0.2.1 h1 (by decide) tA_thr_b1.1 tA_thr_b1.2.2 tA_thr_b1.2.1 tA_mk2
theorem t23ls {w : World} (h : FSx W Q w F a tA2 100 2 (-1)) {p : Option Addr} {c : Nat} {S : Nat -> Prop} (hA : SlAt encStr S w p c [⟨#[97]⟩]) (bt : TypeId) (bv : Value) :
 Calls Tryz.prog 11 #[.string ⟨#[108, 115]⟩, .slice p 1 c, .pointer (some ⟨F, 0, none⟩), .agg #[.int .i64 1, .int .i64 0], .iface bt bv] w (FXo W Q w F a tA2 100 2 (-1) (.agg #[.string ⟨#[98, 10]⟩, .string ⟨#[]⟩, .int .i64 0])) := by
 obtain ⟨l1, l2, l3, l4, l5, l6, l7⟩ := tA_ls
 refine run_ls h fun Q' w1 B ht hk => ?_
 have := ls_dir ht (hA.keepN hk) (by decide) [(⟨#[98]⟩, 3)] l1 l2 l4 l5 l3 l6 (by decide) (by decide) (by decide)
 rw [l7] at this
 exact this
theorem anchor23_any (w : World) : Calls Tryz.prog 5 #[] w fun e w' => e = .returned (.bool true) ∧ Keeps NoB w w' := by
 have HB := Lib.hid (begin_any w 100 (-1) (by decide) (by decide))
 have HM := Lib.hid (fun (Q : Nat -> Prop) (wx : World) (bt : TypeId) (bv : Value) (F a : Nat) (h : FSx w Q wx F a tA0 100 0 (-1)) (p : Option Addr) (c : Nat) (hA : SlAt encStr (fun _ => True) wx p c [⟨#[45, 112]⟩, ⟨#[97, 47, 98]⟩]) => t23mkdir h hA bt bv)
 have HL := Lib.hid (fun (Q : Nat -> Prop) (wx : World) (bt : TypeId) (bv : Value) (F a : Nat) (h : FSx w Q wx F a tA2 100 2 (-1)) (p : Option Addr) (c : Nat) (hA : SlAt encStr (fun _ => True) wx p c [⟨#[97]⟩]) => t23ls h hA bt bv)
 go_enter Tryz.func5, Tryz.ntmps5
 go_upto_region 5 with (go_at_call 6; go_loud (refine HB.out.mono ?_); rintro e w1 ⟨F, a, rfl, FS, k1⟩)
 have FX1 := Lib.hid (FSx.new FS k1)
 clear HB FS k1
 have HW := Lib.hid (Bx.new (Keeps.refl NoB (w1.alloc (.cells #[.int .i64 1, .int .i64 0] 28))))
 have FX2 := Lib.hid (FX1.out.more (P' := fun g => g = w1.heap.size) ((Keeps.refl NoB w1).alloc (.cells #[.int .i64 1, .int .i64 0] 28)) (fun g hg => .inr ⟨by omega, by rw [hg]; simp⟩))
 clear FX1
 generalize w1.alloc (.cells #[.int .i64 1, .int .i64 0] 28) = w2 at *
 generalize w1.heap.size = WB at *
 have hA := own_lit (E := encStr) (e := 9) (w := w2) (S := fun _ => True) [⟨#[45, 112]⟩, ⟨#[97, 47, 98]⟩] #[.string ⟨#[45, 112]⟩, .string ⟨#[97, 47, 98]⟩] rfl 2 rfl trivial (by decide)
 have ka : Keeps NoB w2 (w2.alloc (.cells #[.string ⟨#[45, 112]⟩, .string ⟨#[97, 47, 98]⟩] 9)) := (Keeps.refl _ _).alloc _
 have HM2 := Lib.hid (fun bt bv => HM.out _ _ bt bv F a (FX2.out.on ka) _ _ hA.at)
 have HWa := Lib.hid (HW.out.on ka)
 have HFa := Lib.hid (FX2.out.on ka)
 have b0 := HW.out.cell 0 _ rfl
 have b1 := HW.out.cell 1 _ rfl
 have bl := HW.out.lt
 clear hA ka HM
 go_upto_region 6 with (go_at_call 11; go_loud (refine (HM2.out _ _).mono ?_); rintro e w3 ⟨rfl, FX3, k3⟩)
 have FX4 := Lib.hid (FX3.on ((Keeps.refl NoB w3).alloc (.cells #[.string ⟨#[]⟩, .string ⟨#[]⟩, .int .i64 0] 37)))
 have HR := Lib.hid (Bx.new (Keeps.refl NoB (w3.alloc (.cells #[.string ⟨#[]⟩, .string ⟨#[]⟩, .int .i64 0] 37))))
 have HW4 := Lib.hid ((HFa.out.kept HWa.out k3 rfl).on ((Keeps.refl NoB w3).alloc (.cells #[.string ⟨#[]⟩, .string ⟨#[]⟩, .int .i64 0] 37)))
 clear FX3 k3 HWa HFa HM2 b0 b1 bl FX2 HW
 generalize w3.alloc (.cells #[.string ⟨#[]⟩, .string ⟨#[]⟩, .int .i64 0] 37) = w4 at *
 generalize w3.heap.size = R at *
 have hA := own_lit (E := encStr) (e := 9) (w := w4) (S := fun _ => True) [⟨#[97]⟩] #[.string ⟨#[97]⟩] rfl 1 rfl trivial (by decide)
 have ka : Keeps NoB w4 (w4.alloc (.cells #[.string ⟨#[97]⟩] 9)) := (Keeps.refl _ _).alloc _
 have HL2 := Lib.hid (fun bt bv => HL.out _ _ bt bv F a (FX4.out.on ka) _ _ hA.at)
 have b0 := HW4.out.cell 0 _ rfl
 have b1 := HW4.out.cell 1 _ rfl
 have bl := HW4.out.lt
 have r0 := HR.out.cell 0 _ rfl
 have r1 := HR.out.cell 1 _ rfl
 have r2 := HR.out.cell 2 _ rfl
 have rl := HR.out.lt
 clear hA ka HL
 go_wp2_with (go_at_call 11; go_loud (refine (HL2.out _ _).mono ?_); rintro e w5 ⟨rfl, FX5, k5⟩)
 go_ret
 exact ⟨rfl, FX5.keeps⟩
end
section
variable {W : World} {Q : Nat -> Prop} {F a : Nat}
theorem okMode_nat {m : Nat} (hm : m <= 4095) : okMode (m : Int) = true := by
 unfold okMode
 simp
 omega
theorem t23chmod {w : World} {m : Nat} (hm : m <= 4095) (h : FSx W Q w F a (tB 511) 65536 1 (-1)) {p : Option Addr} {c : Nat} {S : Nat -> Prop} (hA : SlAt encStr S w p c [octB m, ⟨#[100]⟩]) (bt' : TypeId) (bv : Value) :
 Calls Tryz.prog 11 #[.string ⟨#[99, 104, 109, 111, 100]⟩, .slice p 2 c, .pointer (some ⟨F, 0, none⟩), .agg #[.int .i64 1, .int .i64 0], .iface bt' bv] w (FXo W Q w F a (tB m) 65536 2 (-1) (.agg #[.string ⟨#[]⟩, .string ⟨#[]⟩, .int .i64 0])) := by
 obtain ⟨s1, s2, s3⟩ := tB_stat 511 true
 refine run_chmod h fun Q' w1 B ht hk => ?_
 exact chmod_one ht (hA.keepN hk) hm (by decide) (by decide) (by decide) s1 s3 s2 (tB_chmod m (okMode_nat hm))
theorem t23test {w : World} {m : Nat} (hm : m <= 4095) (h : FSx W Q w F a (tB m) 65536 2 (-1)) {p : Option Addr} {c : Nat} {S : Nat -> Prop} {k : Nat} (hk3 : k < 3) {op : ByteArray} (hop : [(⟨#[45, 120]⟩ : ByteArray), ⟨#[45, 119]⟩, ⟨#[45, 114]⟩][k]? = some op)
 (hA : SlAt encStr S w p c [op, ⟨#[100]⟩, ⟨#[93]⟩]) (bt' : TypeId) (bv : Value) :
 Calls Tryz.prog 11 #[.string ⟨#[91]⟩, .slice p 3 c, .pointer (some ⟨F, 0, none⟩), .agg #[.int .i64 1, .int .i64 0], .iface bt' bv] w (FXo W Q w F a (tB m) 65536 2 (-1) (.agg #[.string ⟨#[]⟩, .string ⟨#[]⟩, .int .i64 (if bt m (6 + k) then 0 else 1)])) := by
 obtain ⟨s1, s2, s3⟩ := tB_stat m true
 refine run_br h fun Q' w1 B ht hk => ?_
 match k, hk3 with
 | 0, _ => cases hop; exact test_br ht (hA.keepN hk) (by decide) fun w2 hk2 => one_x (ht.on hk2) (by decide) hm s1 s3 s2
 | 1, _ => cases hop; exact test_br ht (hA.keepN hk) (by decide) fun w2 hk2 => one_w (ht.on hk2) (by decide) hm s1 s3 s2
 | 2, _ => cases hop; exact test_br ht (hA.keepN hk) (by decide) fun w2 hk2 => one_r (ht.on hk2) (by decide) hm s1 s3 s2
theorem t23ld {w : World} {m : Nat} (hm : m <= 4095) (h : FSx W Q w F a (tB m) 65536 2 (-1)) {p : Option Addr} {c : Nat} {S : Nat -> Prop} (hA : SlAt encStr S w p c [⟨#[45, 108, 100]⟩, ⟨#[100]⟩]) (bt' : TypeId) (bv : Value) :
 Calls Tryz.prog 11 #[.string ⟨#[108, 115]⟩, .slice p 2 c, .pointer (some ⟨F, 0, none⟩), .agg #[.int .i64 1, .int .i64 0], .iface bt' bv] w (FXo W Q w F a (tB m) 65536 2 (-1) (.agg #[.string (lineL m ⟨#[100]⟩), .string ⟨#[]⟩, .int .i64 0])) := by
 obtain ⟨s1, s2, s3⟩ := tB_stat m false
 refine run_ls h fun Q' w1 B ht hk => ?_
 exact ls_ld ht (hA.keepN hk) (by decide) (by decide) hm s1 s3 s2
end
theorem lineL_eq (m : Nat) : lineL m ⟨#[100]⟩ = (⟨(letL 100 m).toArray⟩ : ByteArray) ++ ⟨#[32, 49, 32, 48, 32, 100, 10]⟩ := by
 unfold lineL dgB
 apply ba_eq
 simp
theorem toolModes_any (x : Int) (W : World) : Calls Tryz.prog 4 #[.int .i64 x] W fun e w' => e = .returned (.bool true) ∧ Keeps NoB W w' := by
 have HA := Lib.hid anchor23_any
 have hc : x < 0 ∨ (¬ x < 0 ∧ 4095 < x) ∨ ∃ m : Nat, m <= 4095 ∧ x = m := by
  rcases Int.lt_or_le x 0 with h | h
  ·exact .inl h
  ·rcases Int.lt_or_le 4095 x with h2 | h2
   ·exact .inr (.inl ⟨by omega, h2⟩)
   ·exact .inr (.inr ⟨x.toNat, by omega, by omega⟩)
 rcases hc with z | ⟨z, z2⟩ | ⟨m, hm, rfl⟩
 ·go_enter Tryz.func4, Tryz.ntmps4
  go_wp2_with (go_at_call 5; go_loud (refine (HA.out _).mono ?_); rintro e w1 ⟨rfl, hk1⟩)
  go_ret
  exact ⟨rfl, hk1⟩
 ·go_enter Tryz.func4, Tryz.ntmps4
  go_wp2_with (go_at_call 5; go_loud (refine (HA.out _).mono ?_); rintro e w1 ⟨rfl, hk1⟩)
  go_ret
  exact ⟨rfl, hk1⟩
 have hm1 : (m : Int) <= 4095 := by omega
 have HB := Lib.hid (fun wx : World => begin_any wx 65536 (-1) (by decide) (by decide))
 go_enter Tryz.func4, Tryz.ntmps4
 go_upto_region 9 with (first | (go_at_call 5; go_loud (refine (HA.out _).mono ?_); rintro e w1 ⟨rfl, hk1⟩) | (go_at_call 6; go_loud (refine (HB.out _).mono ?_); rintro e w2 ⟨F, a, rfl, FS, k2⟩))
 have FX0 := Lib.hid (FSx.new (FS.less (fun g hg => Nat.lt_of_lt_of_le hg hk1.size)) (hk1.trans k2))
 clear HA HB FS hk1 k2
 have HW := Lib.hid (Bx.new (Keeps.refl NoB (w2.alloc (.cells #[.int .i64 1, .int .i64 0] 28))))
 have FX1 := Lib.hid (FX0.out.more (P' := fun g => g = w2.heap.size) ((Keeps.refl NoB w2).alloc (.cells #[.int .i64 1, .int .i64 0] 28)) (fun g hg => .inr ⟨by omega, by rw [hg]; simp⟩))
 have hWB : W.heap.size <= w2.heap.size := FX0.out.keeps.size
 clear FX0
 generalize w2.alloc (.cells #[.int .i64 1, .int .i64 0] 28) = w3 at *
 generalize w2.heap.size = WB at *
 have HMk : Hid (Calls Tryz.prog 15 #[.pointer (some ⟨F, 0, none⟩), .agg #[.int .i64 1, .int .i64 0], .string ⟨#[100]⟩, .int .i64 511] w3 (FXo W (fun g => g = WB) w3 F a (tB 511) 65536 1 (-1) (.int .i64 0))) := Lib.hid (by
  have h0 : FSx W (fun g => g = WB) w3 F a tA0 65536 0 (-1) := FX1.out
  have := h0.call (fun N hN => mkdir_any hN (by decide) (by decide) (by decide) 1 0 ⟨#[100]⟩ 511 (by decide))
  rw [tB_mk h0.inv h0.clean] at this
  exact this)
 have b0 := HW.out.cell 0 _ rfl
 have b1 := HW.out.cell 1 _ rfl
 have bl := HW.out.lt
 go_upto_region 10 with (go_at_call 15; go_loud (refine HMk.out.mono ?_); rintro e wp ⟨rfl, FX2, k3⟩)
 have HWp := Lib.hid (FX1.out.kept HW.out k3 rfl)
 have FXp := Lib.hid FX2
 clear b0 b1 bl HMk FX1 HW FX2 k3
 have HOc := Lib.hid (fun w1 : World => r1octal_any m hm w1)
 have HRn := Lib.hid (fun (wx : World) (k : Keeps NoB wp wx) (p : Option Addr) (c : Nat) (hA : SlAt encStr (fun _ => True) wx p c [octB m, ⟨#[100]⟩]) (bt' : TypeId) (bv : Value) => t23chmod hm (FXp.out.on k) hA bt' bv)
 obtain ⟨om, hom⟩ : ∃ om, octB m = om := ⟨_, rfl⟩
 rw [hom] at HOc HRn
 have p0 := HWp.out.cell 0 _ rfl
 have p1 := HWp.out.cell 1 _ rfl
 have pl := HWp.out.lt
 go_cut [39] from 30 to 39 (fun x wx => ∃ wn : World, wn = wx ∧ x = .bool false ∧ FSx W (fun g => g = WB) wx F a (tB m) 65536 2 (-1) ∧ Bx wx WB [.int .i64 1, .int .i64 0])
 case first =>
  have krd := (Keeps.refl NoB wp).drew
  have d0 := (HWp.out.on krd).cell 0 _ rfl
  have d1 := (HWp.out.on krd).cell 1 _ rfl
  go_region_held3 (fun wz => wz.cell? ⟨WB, 0, none⟩ = some (.int .i64 1) ∧ wz.cell? ⟨WB, 1, none⟩ = some (.int .i64 0)) (refine ⟨?_, ?_⟩ <;> first | with_reducible assumption | (with_reducible refine (HWp.out.on ?_).cell 0 _ rfl; (repeat (first | with_reducible assumption | (with_reducible exact Keeps.refl _ _) | (with_reducible refine Keeps.drew ?_) | (with_reducible refine Keeps.drewN ?_ _) | (with_reducible refine Keeps.alloc ?_ _))); done) | (with_reducible refine (HWp.out.on ?_).cell 1 _ rfl; (repeat (first | with_reducible assumption | (with_reducible exact Keeps.refl _ _) | (with_reducible refine Keeps.drew ?_) | (with_reducible refine Keeps.drewN ?_ _) | (with_reducible refine Keeps.alloc ?_ _))); done))
   (first | (go_at_call 16; refine (HOc.out _).mono ?_; rintro e w4 ⟨rfl, hk4⟩; have zky : Keeps NoB wp w4 := Keeps.trans (by (repeat (first | with_reducible assumption | (with_reducible exact Keeps.refl _ _) | (with_reducible refine Keeps.drew ?_) | (with_reducible refine Keeps.drewN ?_ _) | (with_reducible refine Keeps.alloc ?_ _)))) hk4; have z0 := (HWp.out.on zky).cell 0 _ rfl; have z1 := (HWp.out.on zky).cell 1 _ rfl; have hA := (own_lit (E := encStr) (e := 9) (w := w4) (S := fun _ => True) [om, ⟨#[100]⟩] #[.string om, .string ⟨#[100]⟩] rfl 2 rfl trivial (by decide)).at) | (go_at_call 11; refine (HRn.out _ (by (repeat (first | with_reducible assumption | (with_reducible exact Keeps.refl _ _) | (with_reducible refine Keeps.drew ?_) | (with_reducible refine Keeps.drewN ?_ _) | (with_reducible refine Keeps.alloc ?_ _)))) _ _ (hA.keepN (by (repeat (first | with_reducible assumption | (with_reducible exact Keeps.refl _ _) | (with_reducible refine Keeps.drew ?_) | (with_reducible refine Keeps.drewN ?_ _) | (with_reducible refine Keeps.alloc ?_ _))))) _ _).mono ?_; rintro e w5 ⟨rfl, FX5, k5⟩; have hb5 := (FXp.out.on (by (repeat (first | with_reducible assumption | (with_reducible exact Keeps.refl _ _) | (with_reducible refine Keeps.drew ?_) | (with_reducible refine Keeps.drewN ?_ _) | (with_reducible refine Keeps.alloc ?_ _))))).kept (HWp.out.on (by (repeat (first | with_reducible assumption | (with_reducible exact Keeps.refl _ _) | (with_reducible refine Keeps.drew ?_) | (with_reducible refine Keeps.drewN ?_ _) | (with_reducible refine Keeps.alloc ?_ _))))) k5 rfl; have y0 := hb5.cell 0 _ rfl; have y1 := hb5.cell 1 _ rfl))
  all_goals (go_wp2_with fail; go_meet; exact ⟨_, rfl, rfl, FX5, hb5⟩)
 case rest =>
  obtain ⟨wq, rfl, rfl, FX5, hb5⟩ := hcut
  clear p0 p1 pl HOc HRn HWp FXp hom
  have HLt := Lib.hid (own_lit (E := encStr) (e := 9) (w := wq) (S := fun g => g = wq.heap.size) [⟨#[45, 120]⟩, ⟨#[45, 119]⟩, ⟨#[45, 114]⟩] #[.string ⟨#[45, 120]⟩, .string ⟨#[45, 119]⟩, .string ⟨#[45, 114]⟩] rfl 3 rfl rfl (by decide))
  have ka : Keeps NoB wq (wq.alloc (.cells #[.string ⟨#[45, 120]⟩, .string ⟨#[45, 119]⟩, .string ⟨#[45, 114]⟩] 9)) := (Keeps.refl _ _).alloc _
  have HWl := Lib.hid (hb5.on ka)
  have hbl := hb5.lt
  have hWs := FX5.keeps.size
  have FXl := Lib.hid (FX5.more (P' := fun g => g = WB ∨ g = wq.heap.size) ka (fun g hg => hg.elim .inl (fun h => .inr ⟨by omega, by rw [h]; simp⟩)))
  clear FX5 hb5 ka
  go_wp2_with fail
  generalize wq.alloc (.cells #[.string ⟨#[45, 120]⟩, .string ⟨#[45, 119]⟩, .string ⟨#[45, 114]⟩] 9) = wl at *
  generalize wq.heap.size = LB at *
  go_loopw [42] (fun i wr => ∃ k : Nat, k <= 3 ∧ i = .int .i64 k ∧ FSx W (fun g => g = WB ∨ g = LB) wr F a (tB m) 65536 2 (-1) ∧ Bx wr WB [.int .i64 1, .int .i64 0] ∧ SlAt encStr (fun g => g = LB) wr (some ⟨LB, 0, none⟩) 3 [⟨#[45, 120]⟩, ⟨#[45, 119]⟩, ⟨#[45, 114]⟩]) (fun i _ => 4 - (intOf i).toNat)
  case atStart => exact ⟨0, by omega, rfl, FXl.out, HWl.out, HLt.out.at⟩
  case round =>
   obtain ⟨k, hk, rfl, hfx, hwb, hla⟩ := hrel
   have FX := Lib.hid hfx
   have HWr := Lib.hid hwb
   have HLa := Lib.hid hla
   have b0 := hwb.cell 0 _ rfl
   have b1 := hwb.cell 1 _ rfl
   have bl := hwb.lt
   clear hfx hwb hla FXl HWl HLt
   by_cases hlt : k < 3
   ·obtain ⟨op, hop⟩ : ∃ op, [(⟨#[45, 120]⟩ : ByteArray), ⟨#[45, 119]⟩, ⟨#[45, 114]⟩][k]? = some op := ⟨_, List.getElem?_eq_getElem (by show k < 3; exact hlt)⟩
    obtain ⟨g, off, hg, _, _, c0⟩ := HLa.out.str hop
    cases hg
    simp only [Nat.zero_add] at c0
    have ka : Keeps NoB wr (wr.alloc (.cells #[.string op, .string ⟨#[100]⟩, .string ⟨#[93]⟩] 9)) := (Keeps.refl _ _).alloc _
    have hA := (own_lit (E := encStr) (e := 9) (w := wr) (S := fun _ => True) [op, ⟨#[100]⟩, ⟨#[93]⟩] #[.string op, .string ⟨#[100]⟩, .string ⟨#[93]⟩] rfl 3 rfl trivial (by decide)).at
    have HRn := Lib.hid (fun (bt' : TypeId) (bv : Value) => t23test hm (FX.out.on ka) hlt hop hA bt' bv)
    have HRk := Lib.hid ka
    have HHs := Lib.hid (fun w1 : World => hasb_any m (6 + k) hm (by omega) w1)
    rw [show (((6 + k : Nat)) : Int) = 6 + (k : Int) by omega] at HHs
    obtain ⟨bb, hbb⟩ : ∃ bb, bt m (6 + k) = bb := ⟨_, rfl⟩
    rw [hbb] at HRn HHs
    have hfi : ∀ (r : Int) (wx : World), (Instr.field 37 (.agg #[.string ⟨#[]⟩, .string ⟨#[]⟩, .int .i64 r]) 2).run Tryz.prog wx = .ok (.int .i64 r) wx := fun _ _ => rfl
    clear hop ka hA hbb
    cases bb
    all_goals
     go_wp2_with ((go_at_call 11; go_loud (refine (HRn.out _ _).mono ?_); rintro e w5 ⟨rfl, FX5, k5⟩; have hwb5 := (FX.out.on HRk.out).kept (HWr.out.on HRk.out) k5 (.inl rfl); have hla5 := (HLa.out.keepN HRk.out).keep k5 (fun g hg _ hn => hn (.inr (.inr hg)))))
     go_wp2_with (go_at_call 17; go_loud (refine (HHs.out _).mono ?_); rintro e w6 ⟨rfl, rfl⟩)
     go_roundw
     case rel => exact ⟨k + 1, by omega, by go_num, FX5, hwb5, hla5⟩
     case measure => simp [intOf]; omega
   ·obtain rfl : k = 3 := by omega
    have ka : Keeps NoB wr (wr.alloc (.cells #[.string ⟨#[45, 108, 100]⟩, .string ⟨#[100]⟩] 9)) := (Keeps.refl _ _).alloc _
    have hA := (own_lit (E := encStr) (e := 9) (w := wr) (S := fun _ => True) [⟨#[45, 108, 100]⟩, ⟨#[100]⟩] #[.string ⟨#[45, 108, 100]⟩, .string ⟨#[100]⟩] rfl 2 rfl trivial (by decide)).at
    have HRn := Lib.hid (fun (bt' : TypeId) (bv : Value) => t23ld hm (FX.out.on ka) hA bt' bv)
    rw [lineL_eq] at HRn
    have HLt := Lib.hid (fun w1 : World => r1letters_any m hm w1)
    obtain ⟨X, hX⟩ : ∃ X : ByteArray, (⟨(letL 100 m).toArray⟩ : ByteArray) = X := ⟨_, rfl⟩
    have hXs : X.size <= 10 := by rw [<- hX]; exact Nat.le_refl 10
    rw [hX] at HRn HLt
    clear hX ka hA
    go_wp2_with (first | (go_at_call 11; go_loud (refine (HRn.out _ _).mono ?_); rintro e w5 ⟨rfl, FX5, k5⟩) | (go_at_call 18; go_loud (refine (HLt.out _).mono ?_); rintro e w6 ⟨rfl, hk6⟩))
    go_ret
    exact ⟨rfl, FX5.keeps.trans hk6⟩
end Go.Proofs.YtimidmogcbapnaaGreatDoor
namespace Go.Proofs.YtimidmogcbapnaaGreatDoor
open Go.RowKit
theorem ba_ext {a b : ByteArray} (h : a.data.toList = b.data.toList) : a = b := ByteArray.ext (Array.toList_inj.1 h)
theorem over_list (s : ByteArray) (x : Nat) (t : ByteArray) : (over s x t).data.toList = s.data.toList.take x ++ t.data.toList ++ s.data.toList.drop (x + t.size) := by simp [over]
end Go.Proofs.YtimidmogcbapnaaGreatDoor
namespace Go.Proofs.YtimidmogcbapnaaGreatDoor
theorem over_all (s : ByteArray) : over (⟨#[]⟩ ++ noughts s.size) 0 s = s := by
 apply ba_ext
 rw [over_list]
 simp only [List.take_zero, List.nil_append, Nat.zero_add]
 rw [List.drop_of_length_le]
 ·simp
 ·rw [len_data, ByteArray.size_append, noughts_size]
  show 0 + s.size <= s.size
  omega
def fN (m h : Int) (D : ByteArray) : Nd := ⟨1, m, h, D, []⟩
def lN (t : ByteArray) : Nd := ⟨3, 511, 0, t, []⟩
def gN (m : Int) (es : List Ent) : Nd := ⟨2, m, 0, ⟨#[]⟩, es⟩
structure Nm1 (x : ByteArray) : Prop where
 p : pathErr x = 0
 l : prts x = [x]
 s : endS x = false
 a : absB x = false
 n1 : ¬ x = dotB
 n2 : ¬ x = dotsB
 z : x.size <= 255
 ok : okName x = true
 ne : ¬ x = ⟨#[]⟩
section
variable {d : Nds} {es E : List Ent} {x y t : ByteArray} {k j i m h room calls : Int} {D : ByteArray} {fl : Bool}
theorem gN_into (hn : nd d i = gN m es) (hm : m / 64 % 2 = 1) : intoErr d i = 0 := by
 unfold intoErr folderErr
 rw [hn]
 show (if (if (2 : Int) = 0 then (12 : Int) else if (2 : Int) = 2 then 0 else 14) ≠ 0 then _ else if m / 64 % 2 = 0 then (19 : Int) else 0) = 0
 rw [hm]
 rfl
theorem gN_may (hn : nd d i = gN m es) (hm : m / 128 % 2 = 1) : mayE d i 128 = 0 := by
 unfold mayE
 rw [if_neg (by unfold has; rw [hn]; simp [gN]), hn, if_neg (by show ¬ m / 128 % 2 = 0; omega)]
theorem gN_folder (hn : nd d i = gN m es) : folderErr d i = 0 := by
 unfold folderErr
 rw [hn]
 rfl
theorem fN_has (hn : nd d k = fN m h D) : has d k := by
 unfold has
 rw [hn]
 show (1 : Int) ≠ 0
 decide
theorem fnd_none (hn : nd d 1 = gN 493 es) (hx : Nm1 x) (hg : entGet es x = none) : fndR d 1 x fl = (⟨0, 1, x⟩, 0) := by
 have := find_1 (d := d) (up := upC d) (s := x) (a := x) (follow := fl) (gN_into hn (by decide)) hx.p hx.l hx.s hx.a hx.n1 hx.n2 hx.z (fun k hk => by rw [hn, show (gN 493 es).ents = es from rfl, hg] at hk; cases hk) 40 0
 rw [hn, show (gN 493 es).ents = es from rfl, hg] at this
 exact this
theorem fnd_at (hn : nd d 1 = gN 493 es) (hx : Nm1 x) (hg : entGet es x = some k) (hk0 : k ≠ 0) (hk : fl = true -> (nd d k).kind ≠ 3) : fndR d 1 x fl = (⟨k, 1, x⟩, 0) := by
 have := find_name (d := d) (up := upC d) (n := 0) (x := x) (follow := fl) (fuel := 40) (gN_into hn (by decide)) hx.p hx.l hx.s hx.a hx.n1 hx.n2 hx.z (k := k) (by rw [hn]; exact hg) hk0
 rw [if_neg (fun h => hk h.1 h.2)] at this
 exact this
theorem fnd_link (hn : nd d 1 = gN 493 es) (hx : Nm1 x) (hg : entGet es x = some k) (hk0 : k ≠ 0) (hk : nd d k = lN t) (ht : Nm1 t) (hgt : entGet es t = some j) (hj0 : j ≠ 0) (hj : (nd d j).kind ≠ 3) : fndR d 1 x true = (⟨j, 1, t⟩, 0) := by
 have h1 := find_name (d := d) (up := upC d) (n := 0) (x := x) (follow := true) (fuel := 40) (gN_into hn (by decide)) hx.p hx.l hx.s hx.a hx.n1 hx.n2 hx.z (k := k) (by rw [hn]; exact hg) hk0
 rw [hk, if_pos ⟨rfl, rfl⟩, if_neg (by decide), if_neg (by exact ht.ne)] at h1
 have h2 := find_name (d := d) (up := upC d) (n := 1) (x := t) (follow := true) (fuel := 39) (gN_into hn (by decide)) ht.p ht.l ht.s ht.a ht.n1 ht.n2 ht.z (k := j) (by rw [hn]; exact hgt) hj0
 rw [if_neg (fun h => hj h.2)] at h2
 exact h1.trans h2
theorem fnd_two {s : ByteArray} {es2 : List Ent} (hn : nd d 1 = gN 493 es) (hs : pathErr s = 0) (hl : prts s = [x, y]) (he : endS s = false) (ha : absB s = false) (hx : Nm1 x) (hy : Nm1 y) (hg : entGet es x = some k) (hk0 : k ≠ 0) (hk : nd d k = gN m es2) (hm : m / 64 % 2 = 1)
 (hj : ∀ j, entGet es2 y = some j -> (nd d j).kind ≠ 3) : fndR d 1 s fl = (⟨(entGet es2 y).getD 0, k, y⟩, 0) := by
 have := find_2 (d := d) (up := upC d) (s := s) (a := x) (b := y) (follow := fl) (gN_into hn (by decide)) hs hl he ha hx.n1 hx.n2 hx.z hy.n1 hy.n2 hy.z (k := k) (by rw [hn]; exact hg) hk0 (by rw [hk]; show (2 : Int) ≠ 3; decide) (gN_into hk hm) (fun j h => hj j (by rw [hk] at h; exact h)) 40 0
 rw [hk] at this
 exact this
theorem thr_at {p : Plc} (hf : fndR d 1 x fl = (p, 0)) (hp : p.node ≠ 0) : thrR d 1 x fl = (p, 0) := by
 unfold thrR
 rw [hf]
 unfold thereR
 rw [if_neg (by simp), if_neg hp]
theorem thr_none {p : Plc} (hf : fndR d 1 x fl = (p, 0)) (hp : p.node = 0) : thrR d 1 x fl = (.no, 12) := by
 unfold thrR
 rw [hf]
 unfold thereR
 rw [if_neg (by simp), if_pos hp]
theorem stat_none (ht : thrR d 1 x fl = (.no, 12)) : (thrR d 1 x fl).1.node = 0 ∧ statE d (thrR d 1 x fl) = 12 ∧ statV d (thrR d 1 x fl) = .agg #[.int .i64 0, .int .i64 0, .int .i64 0, .int .i64 0, .int .i64 0] := by
 rw [ht]
 exact ⟨rfl, rfl, rfl⟩
theorem stat_file {p : Plc} (ht : thrR d 1 x fl = (p, 0)) (hk : p.node = k) (hn : nd d k = fN m h D) {L : Int} (hl : ((links d k : Nat) : Int) = L) : (thrR d 1 x fl).1.node = k ∧ statE d (thrR d 1 x fl) = 0 ∧ statV d (thrR d 1 x fl) = .agg #[.int .i64 1, .int .i64 m, .int .i64 L, .int .i64 h, .int .i64 (D.size : Int)] := by
 rw [ht]
 have hh : has d p.node := by rw [hk]; exact fN_has hn
 refine ⟨hk, ?_, ?_⟩
 ·unfold statE
  rw [if_neg (by simp), if_pos hh]
 ·unfold statV infoAt
  rw [if_neg (by simp), if_pos hh, hk, hn, hl]
  rfl
theorem stat_dir {p : Plc} (ht : thrR d 1 x fl = (p, 0)) (hk : p.node = k) (hn : nd d k = gN m es) {L : Int} (hl : ((links d k : Nat) : Int) = L) : (thrR d 1 x fl).1.node = k ∧ statE d (thrR d 1 x fl) = 0 ∧ statV d (thrR d 1 x fl) = .agg #[.int .i64 2, .int .i64 m, .int .i64 L, .int .i64 0, .int .i64 (es.length : Int)] := by
 rw [ht]
 have hh : has d p.node := by unfold has; rw [hk, hn]; show (2 : Int) ≠ 0; decide
 refine ⟨hk, ?_, ?_⟩
 ·unfold statE
  rw [if_neg (by simp), if_pos hh]
 ·unfold statV infoAt
  rw [if_neg (by simp), if_pos hh, hk, hn, hl]
  rfl
theorem stat_link {p : Plc} (ht : thrR d 1 x fl = (p, 0)) (hk : p.node = k) (hn : nd d k = lN t) {L : Int} (hl : ((links d k : Nat) : Int) = L) : (thrR d 1 x fl).1.node = k ∧ statE d (thrR d 1 x fl) = 0 ∧ statV d (thrR d 1 x fl) = .agg #[.int .i64 3, .int .i64 511, .int .i64 L, .int .i64 0, .int .i64 (t.size : Int)] := by
 rw [ht]
 have hh : has d p.node := by unfold has; rw [hk, hn]; show (3 : Int) ≠ 0; decide
 refine ⟨hk, ?_, ?_⟩
 ·unfold statE
  rw [if_neg (by simp), if_pos hh]
 ·unfold statV infoAt
  rw [if_neg (by simp), if_pos hh, hk, hn, hl]
  rfl
theorem info_file (hn : nd d k = fN m h D) {L : Int} (hl : ((links d k : Nat) : Int) = L) : infoAt d k = .agg #[.int .i64 1, .int .i64 m, .int .i64 L, .int .i64 h, .int .i64 (D.size : Int)] ∧ (if has d k then (0 : Int) else 12) = 0 := by
 have hh := fN_has hn
 rw [if_pos hh]
 refine ⟨?_, rfl⟩
 unfold infoAt
 rw [if_pos hh, hn, hl]
 rfl
theorem opn_at {p : Plc} (hf : fndR d 1 x true = (p, 0)) (hp : p.node = k) (hk0 : k ≠ 0) (hn : nd d k = fN m h D) (hm : m / 256 % 2 = 1) : openF calls (-1) d room 1 0 x 1 0 = (upd d k (fN m (h + 1) D), k, 0) := by
 unfold openF
 rw [if_neg (fun h => absurd h.1 (by decide))]
 unfold openR
 rw [show (!aloneF 1) = true by decide, hf, if_neg (by simp)]
 simp only
 rw [if_neg (by rw [hp]; exact hk0), if_neg (by decide), hp]
 have ht : thereErr d k 1 = 0 := by
  unfold thereErr
  rw [hn, if_neg (by simp [fN]), if_neg (by simp [fN]), if_neg]
  rintro (⟨_, h2⟩ | ⟨h1, _⟩)
  ·exact absurd h2 (by show ¬ m / 256 % 2 = 0; omega)
  ·exact absurd h1 (by decide)
 unfold openedR
 rw [if_neg (by rw [ht]; simp), if_neg (by decide)]
 unfold holdD hldErr
 rw [if_pos (fN_has hn), if_pos (fN_has hn)]
 unfold holdTo
 rw [hn]
 rfl
theorem rel_at (hcl : NoGarb d) (hn : nd d k = fN m h D) (h1 : h ≠ 0) (hl : links d k ≠ 0) : relErr d k = 0 ∧ relD d k = upd d k (fN m (h - 1) D) := by
 have hh := fN_has hn
 have hre : relErr d k = 0 := relErr_ok hh (by rw [hn]; exact h1)
 have hrt : relTo d k = upd d k (fN m (h - 1) D) := by
  unfold relTo
  rw [hn]
  rfl
 refine ⟨hre, ?_⟩
 unfold relD
 rw [if_pos hre, gc_same, hrt]
 rw [hrt]
 intro i hg
 have hlk : links (upd d k (fN m (h - 1) D)) i = links d i := links_same hh (by rw [hn]; rfl) i
 have hr := has_range hh
 by_cases ik : i = k
 ·have := hg.2.1
  rw [hlk, ik] at this
  exact hl this
 ·obtain ⟨g1, g2, g3⟩ := hg
  rw [hlk] at g2
  unfold has at g1
  rw [nd_upd hr.1 hr.2, if_neg ik] at g1 g3
  exact hcl i ⟨g1, g2, g3⟩
theorem opn_new {flags md : Int} {p : Plc} {s : ByteArray} (hI : DInv d) (hf : fndR d 1 s true = (p, 0)) (hp0 : p.node = 0) (hpi : p.dir = i) (hpx : p.name = x) (hn : nd d i = gN md es) (hmd : md / 128 % 2 = 1) (hok : okName x = true) (hs : endS s = false) (hg : entHas es x = false) (hfl : flags = 6 ∨ flags = 14)
 (hm : okMode m = true) (hfr : freshM m 0 = m) (hc : count d < 65536) (hu : (used d : Int) + x.size <= room) (hcl : ¬ calls = -1) {L : Int} (hL : (d.length : Int) = L) (hE : entPut es x L = E) :
 openF calls (-1) d room 1 0 s flags m = (upd d i (gN md E) ++ [fN m 1 ⟨#[]⟩], L, 0) := by
 have hr : has d i := by unfold has; rw [hn]; show (2 : Int) ≠ 0; decide
 have hir := has_range hr
 obtain ⟨g1, g2, g3⟩ := made_go (d := d) (room := room) (kind := 1) (m := freshM m 0) (s := ⟨#[]⟩) (at' := i) (nm := x) hI (by decide) (by decide) (by rw [hfr]; exact hm) (by intro h; exact absurd h (by decide)) (by decide) hok (gN_folder hn) (by rw [hn]; exact hg) hc (by show (used d : Int) + ((0 : Nat) : Int) + x.size <= room; omega)
 obtain ⟨h1, h2, h3⟩ := fresh_ok (d := d) (room := room) (p := p) (m := m) (mask := 0) (flags := flags) (t := s) (by rcases hfl with h | h <;> rw [h] <;> decide) hs (by rw [hpi]; exact gN_may hn hmd) (by rw [hpi]; exact g1) g2 (by rw [hpi, hpx]; exact g3)
 unfold openF
 rw [if_neg (fun h => by unfold callE at h; rw [if_neg hcl] at h; exact h.2 rfl)]
 unfold openR
 rw [show (!aloneF flags) = true by rcases hfl with h | h <;> rw [h] <;> decide, hf, if_neg (by simp), if_pos (by simpa using hp0)]
 have hres : (freshR d room 0 p s flags m).1 = upd d i (gN md E) ++ [fN m 1 ⟨#[]⟩] := by
  refine nds_ext ?_ fun j => ?_
  ·rw [h2, List.length_append, upd_length]; rfl
  ·rw [h3, nd_append, upd_length, hpi, hpx, hfr]
   by_cases hj : j = (d.length : Int)
   ·rw [if_pos hj, if_pos hj]; rfl
   ·rw [if_neg hj, if_neg hj, nd_upd hir.1 hir.2, hn, hL]
    by_cases hji : j = i
    ·rw [if_pos hji, if_pos hji, <- hE]; rfl
    ·rw [if_neg hji, if_neg hji]
 simp only
 rw [<- hres, <- hL]
 exact Prod.ext rfl h1
theorem wrt_at (hn : nd d k = fN m h ⟨#[]⟩) (hs : D.size <= 500) (hu : (used d : Int) + D.size <= room) (hcl : ¬ calls = -1) : wrtF calls (-1) d room k 0 D = (upd d k (fN m h D), 0) := by
 have hh := fN_has hn
 have hr := has_range hh
 have hf : fileErr d k = 0 := by unfold fileErr; rw [hn]; rfl
 have he : writeErr d room k 0 D = 0 := by
  unfold writeErr
  rw [if_neg (by rw [hf]; simp), if_neg (by decide)]
  split; · rfl
  rw [if_neg (by decide), if_neg (by omega), if_neg]
  unfold endOf
  rw [hn]
  show ¬ room - (used d : Int) < ((max 0 (0 + D.size) : Nat) : Int) - ((0 : Nat) : Int)
  omega
 unfold wrtF
 rw [orFail_ok _ hcl, he]
 refine Prod.ext ?_ rfl
 show writeTo d room k 0 D = _
 unfold writeTo
 split
 ·unfold writeNd
  rw [hn]
  show upd d k (⟨1, m, h, over (⟨#[]⟩ ++ noughts (max 0 (0 + D.size) - 0)) 0 D, []⟩ : Nd) = _
  rw [show max 0 (0 + D.size) - 0 = D.size by omega, over_all]
  rfl
 ·next hne =>
  have : D = ⟨#[]⟩ := by
   have h0 : D.size = 0 := Classical.byContradiction fun h0 => hne ⟨he, h0⟩
   exact ba_ext (by have h9 : D.data.toList.length = 0 := by rw [len_data]; exact h0
                    rw [List.eq_nil_of_length_eq_zero h9])
  rw [this, <- hn]
  refine nds_ext (by rw [upd_length]) fun j => ?_
  rw [nd_upd hr.1 hr.2]
  split
  ·next e => rw [e]
  ·rfl
theorem rt_has {es : List Ent} (hn : nd d 1 = gN 493 es) : has d 1 := by unfold has; rw [hn]; show (2 : Int) ≠ 0; decide
theorem no_has (hg : entGet es x = none) : entHas es x = false := by
 cases h : entHas es x with
 | false => rfl
 | true =>
   obtain ⟨e, he, rfl⟩ := entHas_iff.1 h
   unfold entGet at hg
   rw [Option.map_eq_none_iff, List.find?_eq_none] at hg
   exact absurd (decide_eq_true rfl) (hg e he)
theorem ren_at (hn : nd d 1 = gN 493 es) (hx : Nm1 x) (hy : Nm1 y) (hg : entGet es x = some k) (hk0 : k ≠ 0) (hk : nd d k = fN m h D) (hgy : entGet es y = none) (hu : (used d : Int) + y.size <= room) (hcl : ¬ calls = -1) (hE : entDel (entPut es y k) x = E) (hng : NoGarb (upd d 1 (gN 493 E))) :
 orFail calls (-1) d (renR d room 1 x y) = (upd d 1 (gN 493 E), 0) := by
 have h1 : has d 1 := rt_has hn
 have ht : thrR d 1 x false = (⟨k, 1, x⟩, 0) := thr_at (fnd_at hn hx hg hk0 (fun h => by cases h)) hk0
 have hf : fndR d 1 y false = (⟨0, 1, y⟩, 0) := fnd_none hn hy hgy
 have hmy := gN_may hn (by decide)
 have hfo := gN_folder hn
 have hlo : lookOf d 1 x = k := by unfold lookOf; rw [if_neg (by rw [hfo]; simp), hn]; show (entGet es x).getD 0 = k; rw [hg]; rfl
 have hle : lookErr d 1 x = 0 := by unfold lookErr; rw [if_neg (by rw [hfo]; simp), hn]; show (if (entGet es x).isSome then (0 : Int) else 12) = 0; rw [hg]; rfl
 have hme : moveErr d room 1 x 1 y = 0 := by
  rw [moveErr_two hle hfo (fun h => absurd h.1 (by rw [hlo, hk]; show ¬ (1 : Int) = 2; decide))]
  unfold moveErr2
  rw [hn]
  show (match entGet es y with | some old => _ | none => _) = _
  rw [hgy]
  show movedErr d room 1 y x = 0
  unfold movedErr
  rw [hn]
  show (if entHas es y = true then (0 : Int) else if putErr es y ≠ 0 then putErr es y else if room - used d < (y.size : Int) - x.size then 20 else 0) = 0
  rw [if_neg (by rw [no_has hgy]; simp), if_neg (by rw [putErr_zero.2 ⟨hy.ok, no_has hgy⟩]; simp), if_neg (by omega)]
 have hmt : moveTo d 1 x 1 y k = upd d 1 (gN 493 E) := by
  have hmv : movedAt d 1 y k = entPut es y k := by
   unfold movedAt
   rw [hn]
   show (if entHas es y = true then entSet es y k else entPut es y k) = _
   rw [if_neg (by rw [no_has hgy]; simp)]
  have hmm : moveMid d 1 y k = upd d 1 (gN 493 (entPut es y k)) := by
   unfold moveMid setE
   rw [hmv, hn]
   rfl
  unfold moveTo
  rw [hmm]
  unfold dropTo setE
  rw [nd_upd (by decide) (has_range h1).2, if_pos rfl, upd_upd h1 (show (gN 493 (entPut es y k)).kind ≠ 0 by show (2 : Int) ≠ 0; decide), <- hE]
  rfl
 rw [orFail_ok _ hcl]
 unfold renR
 rw [ht, hf, if_neg (by simp), if_neg (by simp), if_neg (by rintro (h | h); exact hx.ne h; exact hy.ne h), if_neg (fun h => by rw [hy.s] at h; exact absurd h.2.1 (by simp)), if_neg (by rw [hmy]; simp), if_neg (by rw [hmy]; simp)]
 simp only
 rw [hme]
 refine Prod.ext ?_ rfl
 show moveD d room 1 x 1 y = _
 unfold moveD
 rw [if_pos ⟨hme, by rw [hn]; show entGet es y ≠ _; rw [hgy]; simp⟩, hlo, hmt, gc_same hng]
theorem link_at (hn : nd d 1 = gN 493 es) (hx : Nm1 x) (hy : Nm1 y) (hg : entGet es x = some k) (hk0 : k ≠ 0) (hk : nd d k = fN m h D) (hgy : entGet es y = none) (hu : (used d : Int) + y.size <= room) (hlk : links d k < 32768) (hcl : ¬ calls = -1) (hE : entPut es y k = E) :
 orFail calls (-1) d (linkR d room 1 x y) = (upd d 1 (gN 493 E), 0) := by
 have ht : thrR d 1 x false = (⟨k, 1, x⟩, 0) := thr_at (fnd_at hn hx hg hk0 (fun h => by cases h)) hk0
 have hf : fndR d 1 y false = (⟨0, 1, y⟩, 0) := fnd_none hn hy hgy
 have hmy := gN_may hn (by decide)
 have hfr : freeR d 1 y false = (⟨0, 1, y⟩, 0) := by
  unfold freeR
  rw [hf, if_neg (by simp), if_neg (by simp), if_neg (by rw [hy.s]; simp), hmy]
 have hee : enterErr d room 1 y k = 0 := by
  unfold enterErr
  rw [if_neg (by rw [gN_folder hn]; simp), hk, hn, if_neg (by show ¬ (1 : Int) = 0; decide), if_neg (by rintro ⟨h, _⟩; exact absurd h (by show ¬ (1 : Int) = 2; decide)), if_neg (by omega)]
  show (if putErr es y ≠ 0 then putErr es y else if room - used d < y.size then 20 else 0) = 0
  rw [if_neg (by rw [putErr_zero.2 ⟨hy.ok, no_has hgy⟩]; simp), if_neg (by omega)]
 rw [orFail_ok _ hcl]
 unfold linkR
 rw [ht, hfr, if_neg (by simp), if_neg (by rw [hk]; show ¬ (1 : Int) = 2; decide), if_neg (by simp)]
 simp only
 rw [hee]
 refine Prod.ext ?_ rfl
 show enterD d room 1 y k = _
 unfold enterD
 rw [if_pos hee]
 unfold enterTo setE
 rw [hn, <- hE]
 rfl
theorem made_at {kind : Int} (hI : DInv d) (hcl : NoGarb d) (hn : nd d 1 = gN 493 es) (hx : Nm1 x) (hg : entGet es x = none) (hk1 : 1 <= kind) (hk3 : kind <= 3) (hm : okMode m = true) (hd : kind = 2 -> t.size = 0) (hz : t.size <= 4194304) (hc : count d < 65536) (hu : (used d : Int) + t.size + x.size <= room)
 {L : Int} (hL : (d.length : Int) = L) (hE : entPut es x L = E) : madeR d room ⟨0, 1, x⟩ kind m t = (upd d 1 (gN 493 E) ++ [⟨kind, m, 0, t, []⟩], 0) := by
 have hr := has_range (rt_has hn)
 obtain ⟨g1, g2, g3⟩ := made_go (d := d) (room := room) (kind := kind) (m := m) (s := t) (at' := 1) (nm := x) hI hk1 hk3 hm hd hz hx.ok (gN_folder hn) (by rw [hn]; exact no_has hg) hc hu
 obtain ⟨h1, h2, h3⟩ := made_ok (p := ⟨0, 1, x⟩) hI hcl g1 g2 g3
 refine Prod.ext (nds_ext ?_ fun j => ?_) h1
 ·rw [h2, List.length_append, upd_length]; rfl
 ·show nd (madeR d room ⟨0, 1, x⟩ kind m t).1 j = _
  rw [h3, nd_append, upd_length]
  by_cases hj : j = (d.length : Int)
  ·rw [if_pos hj, if_pos hj]
  ·rw [if_neg hj, if_neg hj, nd_upd hr.1 hr.2]
   show (if j = 1 then (nd d 1).setEnts (entPut (nd d 1).ents x d.length) else nd d j) = _
   rw [hn, hL, <- hE]
   rfl
theorem sym_at (hI : DInv d) (hclean : NoGarb d) (hn : nd d 1 = gN 493 es) (hx : Nm1 x) (ht : pathErr t = 0) (hg : entGet es x = none) (hz : t.size <= 4095) (hc : count d < 65536) (hu : (used d : Int) + t.size + x.size <= room) (hcl : ¬ calls = -1)
 {L : Int} (hL : (d.length : Int) = L) (hE : entPut es x L = E) : orFail calls (-1) d (symR d room 1 t x) = (upd d 1 (gN 493 E) ++ [lN t], 0) := by
 have hmy := gN_may hn (by decide)
 have hfr : freeR d 1 x false = (⟨0, 1, x⟩, 0) := by
  unfold freeR
  rw [fnd_none hn hx hg, if_neg (by simp), if_neg (by simp), if_neg (by rw [hx.s]; simp), hmy]
 rw [orFail_ok _ hcl]
 unfold symR
 rw [if_neg (by rw [ht]; simp), hfr, if_neg (by simp)]
 exact made_at hI hclean hn hx hg (by decide) (by decide) (by decide) (by intro h; exact absurd h (by decide)) (by omega) hc hu hL hE
theorem mk_at (hI : DInv d) (hclean : NoGarb d) (hn : nd d 1 = gN 493 es) (hx : Nm1 x) (hg : entGet es x = none) (hc : count d < 65536) (hu : (used d : Int) + x.size <= room) (hcl : ¬ calls = -1)
 {L : Int} (hL : (d.length : Int) = L) (hE : entPut es x L = E) : orFail calls (-1) d (mkdirR d room 1 0 x 511) = (upd d 1 (gN 493 E) ++ [gN 511 []], 0) := by
 have hmy := gN_may hn (by decide)
 have hfr : freeR d 1 x true = (⟨0, 1, x⟩, 0) := by
  unfold freeR
  rw [fnd_none hn hx hg, if_neg (by simp), if_neg (by simp), if_neg (by simp), hmy]
 rw [orFail_ok _ hcl]
 unfold mkdirR
 rw [hfr, if_neg (by simp), show freshM 511 0 = 511 by decide]
 exact made_at hI hclean hn hx hg (by decide) (by decide) (by decide) (by intro _; rfl) (by decide) hc (by show (used d : Int) + ((0 : Nat) : Int) + x.size <= room; omega) hL hE
theorem ng_lit (h : ∀ i : Nat, i < d.length -> (nd d i).kind = 0 ∨ i = 1 ∨ cnt d i ≠ 0) : NoGarb d := by
 rintro i ⟨h1, h2, h3⟩
 have hr := has_range h1
 obtain ⟨n, rfl⟩ : ∃ n : Nat, i = n := ⟨i.toNat, by omega⟩
 unfold links at h2
 rcases h n (by simpa using hr.2) with h4 | h4 | h4
 ·exact h1 h4
 ·subst h4; simp at h2
 ·omega
theorem read_all (hn : nd d k = fN m h D) (hs : D.size <= 500) : readOf d k 0 4194304 = D := by
 have hda : dataOf d k = D := by unfold dataOf; rw [hn]; rfl
 have hde : dataErr d k = 0 := by unfold dataErr; rw [hn]; rfl
 unfold readOf readErr
 rw [hde, hda, if_pos (by decide)]
 unfold cut
 have e1 : min (0 : Int).toNat D.size = 0 := by simp
 have e2 : min (4194304 : Int).toNat (D.size - 0) = D.size := by show min 4194304 (D.size - 0) = D.size; omega
 rw [e1, e2]
 apply ba_ext
 rw [data_extract, Nat.zero_add, List.drop_zero, List.take_of_length_le (by rw [len_data]; exact Nat.le_refl _)]
end
theorem nm_a : Nm1 ⟨#[97]⟩ := ⟨by decide, by decide, by decide, by decide, by decide, by decide, by decide, by decide, by decide⟩
theorem nm_b : Nm1 ⟨#[98]⟩ := ⟨by decide, by decide, by decide, by decide, by decide, by decide, by decide, by decide, by decide⟩
theorem nm_c : Nm1 ⟨#[99]⟩ := ⟨by decide, by decide, by decide, by decide, by decide, by decide, by decide, by decide, by decide⟩
theorem nm_d : Nm1 ⟨#[100]⟩ := ⟨by decide, by decide, by decide, by decide, by decide, by decide, by decide, by decide, by decide⟩
theorem nm_e : Nm1 ⟨#[101]⟩ := ⟨by decide, by decide, by decide, by decide, by decide, by decide, by decide, by decide, by decide⟩
theorem nm_l : Nm1 ⟨#[108]⟩ := ⟨by decide, by decide, by decide, by decide, by decide, by decide, by decide, by decide, by decide⟩
abbrev eA : List Ent := [(⟨#[97]⟩, 2)]
abbrev eAB : List Ent := [(⟨#[97]⟩, 2), (⟨#[98]⟩, 3)]
abbrev eBC : List Ent := [(⟨#[98]⟩, 3), (⟨#[99]⟩, 2)]
abbrev eBCD : List Ent := [(⟨#[98]⟩, 3), (⟨#[99]⟩, 2), (⟨#[100]⟩, 2)]
abbrev eL : List Ent := [(⟨#[98]⟩, 3), (⟨#[99]⟩, 2), (⟨#[100]⟩, 2), (⟨#[108]⟩, 4)]
abbrev eE : List Ent := [(⟨#[98]⟩, 3), (⟨#[99]⟩, 2), (⟨#[100]⟩, 2), (⟨#[101]⟩, 5), (⟨#[108]⟩, 4)]
def cA (m h : Int) (D : ByteArray) : Nds := [Nd.gone, gN 493 eA, fN m h D]
def cAB (m h h3 : Int) (D D3 : ByteArray) : Nds := [Nd.gone, gN 493 eAB, fN m h D, fN m h3 D3]
def cR (es : List Ent) (m : Int) (D : ByteArray) : Nds := [Nd.gone, gN 493 es, fN m 0 D, fN m 0 D]
def cS (m : Int) (D : ByteArray) : Nds := [Nd.gone, gN 493 eL, fN m 0 D, fN m 0 D, lN ⟨#[99]⟩]
def cE (m h : Int) (D : ByteArray) : Nds := [Nd.gone, gN 493 eE, fN m h D, fN m 0 D, lN ⟨#[99]⟩, gN 511 []]
def cF (m h h6 : Int) (D D6 : ByteArray) : Nds := [Nd.gone, gN 493 eE, fN m h D, fN m 0 D, lN ⟨#[99]⟩, gN 511 [(⟨#[108]⟩, 6)], fN m h6 D6]
section
variable {m h h3 h6 calls : Int} {D D3 D6 : ByteArray}
theorem used_cA : used (cA m h D) = 1 + D.size := by
 have : used (cA m h D) = 0 + (1 + ((D.size + 0) + 0)) := rfl
 omega
theorem used_cAB : used (cAB m h h3 D D3) = 2 + D.size + D3.size := by
 have : used (cAB m h h3 D D3) = 0 + (2 + ((D.size + 0) + ((D3.size + 0) + 0))) := rfl
 omega
theorem used_cR1 : used (cR eBC m D) = 2 + D.size + D.size := by
 have : used (cR eBC m D) = 0 + (2 + ((D.size + 0) + ((D.size + 0) + 0))) := rfl
 omega
theorem used_cR2 : used (cR eBCD m D) = 3 + D.size + D.size := by
 have : used (cR eBCD m D) = 0 + (3 + ((D.size + 0) + ((D.size + 0) + 0))) := rfl
 omega
theorem used_cS : used (cS m D) = 5 + D.size + D.size := by
 have : used (cS m D) = 0 + (4 + ((D.size + 0) + ((D.size + 0) + (1 + 0)))) := rfl
 omega
theorem used_cE : used (cE m h D) = 6 + D.size + D.size := by
 have : used (cE m h D) = 0 + (5 + ((D.size + 0) + ((D.size + 0) + (1 + (0 + 0))))) := rfl
 omega
theorem used_cF : used (cF m h h6 D D6) = 7 + D.size + D.size + D6.size := by
 have : used (cF m h h6 D D6) = 0 + (5 + ((D.size + 0) + ((D.size + 0) + (1 + (1 + ((D6.size + 0) + 0)))))) := rfl
 omega
theorem ng_cA : NoGarb (cA m h D) := ng_lit fun i hi => match i, hi with
 | 0, _ => .inl rfl
 | 1, _ => .inr (.inl rfl)
 | 2, _ => .inr (.inr fun e => absurd (show (1 : Nat) = 0 from e) (by decide))
 | i + 3, hi => absurd hi (by show ¬ i + 3 < 3; omega)
theorem ng_cAB : NoGarb (cAB m h h3 D D3) := ng_lit fun i hi => match i, hi with
 | 0, _ => .inl rfl
 | 1, _ => .inr (.inl rfl)
 | 2, _ => .inr (.inr fun e => absurd (show (1 : Nat) = 0 from e) (by decide))
 | 3, _ => .inr (.inr fun e => absurd (show (1 : Nat) = 0 from e) (by decide))
 | i + 4, hi => absurd hi (by show ¬ i + 4 < 4; omega)
theorem ng_cR1 : NoGarb (cR eBC m D) := ng_lit fun i hi => match i, hi with
 | 0, _ => .inl rfl
 | 1, _ => .inr (.inl rfl)
 | 2, _ => .inr (.inr fun e => absurd (show (1 : Nat) = 0 from e) (by decide))
 | 3, _ => .inr (.inr fun e => absurd (show (1 : Nat) = 0 from e) (by decide))
 | i + 4, hi => absurd hi (by show ¬ i + 4 < 4; omega)
theorem ng_cF : NoGarb (cF m h h6 D D6) := ng_lit fun i hi => match i, hi with
 | 0, _ => .inl rfl
 | 1, _ => .inr (.inl rfl)
 | 2, _ => .inr (.inr fun e => absurd (show (2 : Nat) = 0 from e) (by decide))
 | 3, _ => .inr (.inr fun e => absurd (show (1 : Nat) = 0 from e) (by decide))
 | 4, _ => .inr (.inr fun e => absurd (show (1 : Nat) = 0 from e) (by decide))
 | 5, _ => .inr (.inr fun e => absurd (show (1 : Nat) = 0 from e) (by decide))
 | 6, _ => .inr (.inr fun e => absurd (show (1 : Nat) = 0 from e) (by decide))
 | i + 7, hi => absurd hi (by show ¬ i + 7 < 7; omega)
theorem mass_cA : mass (cA m 0 D) + 3 <= 2147483648 := by show (4 : Nat) + 3 <= 2147483648; decide
theorem mass_cA1 : mass (cA m 1 D) + 3 <= 2147483648 := by show (5 : Nat) + 3 <= 2147483648; decide
theorem mass_cE0 : mass (cE m 0 D) + 3 <= 2147483648 := by show (11 : Nat) + 3 <= 2147483648; decide
theorem mass_cE1 : mass (cE m 1 D) + 3 <= 2147483648 := by show (12 : Nat) + 3 <= 2147483648; decide
theorem mass_tA0 : mass tA0 + 3 <= 2147483648 := by show (2 : Nat) + 3 <= 2147483648; decide
-- the file's beginning
theorem tc_open (hI : DInv tA0) : openF 0 (-1) tA0 65536 1 0 ⟨#[97]⟩ 6 384 = (cA 384 1 ⟨#[]⟩, 2, 0) :=
 opn_new (d := tA0) (i := 1) (x := ⟨#[97]⟩) (es := []) (md := 493) (E := eA) hI (fnd_none (es := []) rfl nm_a rfl) rfl rfl rfl rfl (by decide) nm_a.ok nm_a.s rfl (.inl rfl) (by decide) (by decide) (by show (1 : Nat) < 65536; decide) (by show ((0 : Nat) : Int) + ((1 : Nat) : Int) <= 65536; decide) (by decide) rfl (by decide)
theorem tc_write (hD : D.size <= 500) : wrtF 1 (-1) (cA 384 1 ⟨#[]⟩) 65536 2 0 D = (cA 384 1 D, 0) :=
 wrt_at (m := 384) (h := 1) rfl hD (by rw [used_cA]; show (((1 + 0 : Nat)) : Int) + D.size <= 65536; omega) (by decide)
theorem tc_close : relErr (cA 384 1 D) 2 = 0 ∧ relD (cA 384 1 D) 2 = cA 384 0 D :=
 rel_at ng_cA (m := 384) (h := 1) (D := D) rfl (by decide) (fun e => absurd (show (1 : Nat) = 0 from e) (by decide))
theorem tc_chmod (hm : okMode m = true) (hc : ¬ calls = -1) : orFail calls (-1) (cA 384 0 D) (chmR (cA 384 0 D) 1 ⟨#[97]⟩ m) = (cA m 0 D, 0) := by
 have ht : thrR (cA 384 0 D) 1 ⟨#[97]⟩ true = (⟨2, 1, ⟨#[97]⟩⟩, 0) := thr_at (fnd_at (es := eA) (k := 2) rfl nm_a (by decide) (by decide) (fun _ => by show (1 : Int) ≠ 3; decide)) (by decide)
 have he : chmodErr (cA 384 0 D) 2 m = 0 := by unfold chmodErr; rw [if_neg (by show ¬ (1 : Int) = 0; decide), if_pos hm]
 rw [orFail_ok _ hc]
 unfold chmR
 rw [ht, if_neg (by simp)]
 show (chmodD (cA 384 0 D) 2 m, chmodErr (cA 384 0 D) 2 m) = _
 unfold chmodD
 rw [he, if_pos rfl]
 rfl
-- cp a b
theorem tc_open2 (hm : m / 256 % 2 = 1) : openF calls (-1) (cA m 0 D) 65536 1 0 ⟨#[97]⟩ 1 0 = (cA m 1 D, 2, 0) :=
 opn_at (d := cA m 0 D) (k := 2) (p := ⟨2, 1, ⟨#[97]⟩⟩) (D := D) (h := 0) (m := m) (fnd_at (es := eA) (k := 2) rfl nm_a (by decide) (by decide) (fun _ => by show (1 : Int) ≠ 3; decide)) rfl (by decide) rfl hm
theorem tc_info2 : infoAt (cA m 1 D) 2 = .agg #[.int .i64 1, .int .i64 m, .int .i64 1, .int .i64 1, .int .i64 (D.size : Int)] ∧ (if has (cA m 1 D) 2 then (0 : Int) else 12) = 0 :=
 info_file (d := cA m 1 D) (k := 2) (m := m) (h := 1) (D := D) rfl rfl
theorem tc_stat_b (fl : Bool) : (thrR (cA m h D) 1 ⟨#[98]⟩ fl).1.node = 0 ∧ statE (cA m h D) (thrR (cA m h D) 1 ⟨#[98]⟩ fl) = 12 ∧ statV (cA m h D) (thrR (cA m h D) 1 ⟨#[98]⟩ fl) = .agg #[.int .i64 0, .int .i64 0, .int .i64 0, .int .i64 0, .int .i64 0] :=
 stat_none (thr_none (fnd_none (es := eA) rfl nm_b (by decide)) rfl)
theorem tc_put_b (hI : DInv (cA m 1 D)) (hm : okMode m = true) (hf : freshM m 0 = m) (hD : D.size <= 500) (hc : ¬ calls = -1) : openF calls (-1) (cA m 1 D) 65536 1 0 ⟨#[98]⟩ 14 m = (cAB m 1 1 D ⟨#[]⟩, 3, 0) :=
 opn_new (d := cA m 1 D) (i := 1) (x := ⟨#[98]⟩) (es := eA) (md := 493) (E := eAB) hI (fnd_none (es := eA) rfl nm_b (by decide)) rfl rfl rfl rfl (by decide) nm_b.ok nm_b.s (by decide) (.inr rfl) hm hf (by show (2 : Nat) < 65536; decide) (by rw [used_cA]; show (((1 + D.size : Nat)) : Int) + ((1 : Nat) : Int) <= 65536; omega) hc rfl (by decide)
theorem tc_write_b (hD : D.size <= 500) (hc : ¬ calls = -1) : wrtF calls (-1) (cAB m 1 1 D ⟨#[]⟩) 65536 3 0 D = (cAB m 1 1 D D, 0) :=
 wrt_at (d := cAB m 1 1 D ⟨#[]⟩) (k := 3) (m := m) (h := 1) rfl hD (by rw [used_cAB]; show (((2 + D.size + 0 : Nat)) : Int) + D.size <= 65536; omega) hc
theorem tc_done_b : relD (relD (cAB m 1 1 D D) 3) 2 = cAB m 0 0 D D := by
 rw [(rel_at ng_cAB (d := cAB m 1 1 D D) (k := 3) (m := m) (h := 1) (D := D) rfl (by decide) (fun e => absurd (show (1 : Nat) = 0 from e) (by decide))).2]
 exact (rel_at ng_cAB (d := cAB m 1 0 D D) (k := 2) (m := m) (h := 1) (D := D) rfl (by decide) (fun e => absurd (show (1 : Nat) = 0 from e) (by decide))).2
-- mv a c
theorem tc_stat_c : (thrR (cAB m 0 0 D D) 1 ⟨#[99]⟩ true).1.node = 0 ∧ statE (cAB m 0 0 D D) (thrR (cAB m 0 0 D D) 1 ⟨#[99]⟩ true) = 12 ∧ statV (cAB m 0 0 D D) (thrR (cAB m 0 0 D D) 1 ⟨#[99]⟩ true) = .agg #[.int .i64 0, .int .i64 0, .int .i64 0, .int .i64 0, .int .i64 0] :=
 stat_none (thr_none (fnd_none (es := eAB) rfl nm_c (by decide)) rfl)
theorem tc_mv (hD : D.size <= 500) (hc : ¬ calls = -1) : orFail calls (-1) (cAB m 0 0 D D) (renR (cAB m 0 0 D D) 65536 1 ⟨#[97]⟩ ⟨#[99]⟩) = (cR eBC m D, 0) :=
 ren_at (d := cAB m 0 0 D D) (es := eAB) (E := eBC) (k := 2) (m := m) (h := 0) (D := D) rfl nm_a nm_c (by decide) (by decide) rfl (by decide) (by rw [used_cAB]; show (((2 + D.size + D.size : Nat)) : Int) + ((1 : Nat) : Int) <= 65536; omega) hc (by decide) ng_cR1
-- ln c d
theorem tc_stat_d (fl : Bool) : (thrR (cR eBC m D) 1 ⟨#[100]⟩ fl).1.node = 0 ∧ statE (cR eBC m D) (thrR (cR eBC m D) 1 ⟨#[100]⟩ fl) = 12 ∧ statV (cR eBC m D) (thrR (cR eBC m D) 1 ⟨#[100]⟩ fl) = .agg #[.int .i64 0, .int .i64 0, .int .i64 0, .int .i64 0, .int .i64 0] :=
 stat_none (thr_none (fnd_none (es := eBC) rfl nm_d (by decide)) rfl)
theorem tc_ln (hD : D.size <= 500) (hc : ¬ calls = -1) : orFail calls (-1) (cR eBC m D) (linkR (cR eBC m D) 65536 1 ⟨#[99]⟩ ⟨#[100]⟩) = (cR eBCD m D, 0) :=
 link_at (d := cR eBC m D) (es := eBC) (E := eBCD) (k := 2) (m := m) (h := 0) (D := D) rfl nm_c nm_d (by decide) (by decide) rfl (by decide) (by rw [used_cR1]; show (((2 + D.size + D.size : Nat)) : Int) + ((1 : Nat) : Int) <= 65536; omega) (by show (1 : Nat) < 32768; decide) hc (by decide)
-- ln -s c l
theorem tc_stat_l (fl : Bool) : (thrR (cR eBCD m D) 1 ⟨#[108]⟩ fl).1.node = 0 ∧ statE (cR eBCD m D) (thrR (cR eBCD m D) 1 ⟨#[108]⟩ fl) = 12 ∧ statV (cR eBCD m D) (thrR (cR eBCD m D) 1 ⟨#[108]⟩ fl) = .agg #[.int .i64 0, .int .i64 0, .int .i64 0, .int .i64 0, .int .i64 0] :=
 stat_none (thr_none (fnd_none (es := eBCD) rfl nm_l (by decide)) rfl)
theorem tc_sym (hI : DInv (cR eBCD m D)) (hcl : NoGarb (cR eBCD m D)) (hD : D.size <= 500) (hc : ¬ calls = -1) : orFail calls (-1) (cR eBCD m D) (symR (cR eBCD m D) 65536 1 ⟨#[99]⟩ ⟨#[108]⟩) = (cS m D, 0) :=
 sym_at (L := 4) (d := cR eBCD m D) (es := eBCD) (E := eL) (t := ⟨#[99]⟩) hI hcl rfl nm_l (by decide) (by decide) (by decide) (by show (3 : Nat) < 65536; decide) (by rw [used_cR2]; show (((3 + D.size + D.size : Nat)) : Int) + ((1 : Nat) : Int) + ((1 : Nat) : Int) <= 65536; omega) hc rfl (by decide)
-- mkdir e
theorem tc_mkdir (hI : DInv (cS m D)) (hcl : NoGarb (cS m D)) (hD : D.size <= 500) (hc : ¬ calls = -1) : orFail calls (-1) (cS m D) (mkdirR (cS m D) 65536 1 0 ⟨#[101]⟩ 511) = (cE m 0 D, 0) :=
 mk_at (L := 5) (d := cS m D) (es := eL) (E := eE) hI hcl rfl nm_e (by decide) (by show (4 : Nat) < 65536; decide) (by rw [used_cS]; show (((5 + D.size + D.size : Nat)) : Int) + ((1 : Nat) : Int) <= 65536; omega) hc rfl (by decide)
-- cp l e
theorem tc_stat_e : (thrR (cE m 0 D) 1 ⟨#[101]⟩ true).1.node = 5 ∧ statE (cE m 0 D) (thrR (cE m 0 D) 1 ⟨#[101]⟩ true) = 0 ∧ statV (cE m 0 D) (thrR (cE m 0 D) 1 ⟨#[101]⟩ true) = .agg #[.int .i64 2, .int .i64 511, .int .i64 1, .int .i64 0, .int .i64 0] :=
 stat_dir (d := cE m 0 D) (p := ⟨5, 1, ⟨#[101]⟩⟩) (k := 5) (m := 511) (es := []) (thr_at (fnd_at (es := eE) (k := 5) rfl nm_e (by decide) (by decide) (fun _ => by show (2 : Int) ≠ 3; decide)) (by decide)) rfl rfl rfl
theorem tc_open3 (hm : m / 256 % 2 = 1) : openF calls (-1) (cE m 0 D) 65536 1 0 ⟨#[108]⟩ 1 0 = (cE m 1 D, 2, 0) :=
 opn_at (d := cE m 0 D) (k := 2) (p := ⟨2, 1, ⟨#[99]⟩⟩) (D := D) (h := 0) (m := m) (fnd_link (es := eE) (k := 4) (j := 2) (t := ⟨#[99]⟩) rfl nm_l (by decide) (by decide) rfl nm_c (by decide) (by decide) (by show (1 : Int) ≠ 3; decide)) rfl (by decide) rfl hm
theorem tc_info3 : infoAt (cE m 1 D) 2 = .agg #[.int .i64 1, .int .i64 m, .int .i64 2, .int .i64 1, .int .i64 (D.size : Int)] ∧ (if has (cE m 1 D) 2 then (0 : Int) else 12) = 0 :=
 info_file (d := cE m 1 D) (k := 2) (m := m) (h := 1) (D := D) rfl rfl
theorem fnd_el (fl : Bool) : fndR (cE m 1 D) 1 ⟨#[101, 47, 108]⟩ fl = (⟨0, 5, ⟨#[108]⟩⟩, 0) :=
 fnd_two (d := cE m 1 D) (es := eE) (x := ⟨#[101]⟩) (y := ⟨#[108]⟩) (k := 5) (m := 511) (es2 := []) rfl (by decide) (by decide) (by decide) (by decide) nm_e nm_l (by decide) (by decide) rfl (by decide) (fun j h => by cases h)
theorem tc_stat_el (fl : Bool) : (thrR (cE m 1 D) 1 ⟨#[101, 47, 108]⟩ fl).1.node = 0 ∧ statE (cE m 1 D) (thrR (cE m 1 D) 1 ⟨#[101, 47, 108]⟩ fl) = 12 ∧ statV (cE m 1 D) (thrR (cE m 1 D) 1 ⟨#[101, 47, 108]⟩ fl) = .agg #[.int .i64 0, .int .i64 0, .int .i64 0, .int .i64 0, .int .i64 0] :=
 stat_none (thr_none (fnd_el fl) rfl)
theorem tc_put_el (hI : DInv (cE m 1 D)) (hm : okMode m = true) (hf : freshM m 0 = m) (hD : D.size <= 500) (hc : ¬ calls = -1) : openF calls (-1) (cE m 1 D) 65536 1 0 ⟨#[101, 47, 108]⟩ 14 m = (cF m 1 1 D ⟨#[]⟩, 6, 0) :=
 opn_new (d := cE m 1 D) (i := 5) (x := ⟨#[108]⟩) (es := []) (md := 511) (E := [(⟨#[108]⟩, 6)]) hI (fnd_el true) rfl rfl rfl rfl (by decide) nm_l.ok (by decide) rfl (.inr rfl) hm hf (by show (5 : Nat) < 65536; decide) (by rw [used_cE]; show (((6 + D.size + D.size : Nat)) : Int) + ((1 : Nat) : Int) <= 65536; omega) hc rfl (by decide)
theorem tc_write_el (hD : D.size <= 500) (hc : ¬ calls = -1) : wrtF calls (-1) (cF m 1 1 D ⟨#[]⟩) 65536 6 0 D = (cF m 1 1 D D, 0) :=
 wrt_at (d := cF m 1 1 D ⟨#[]⟩) (k := 6) (m := m) (h := 1) rfl hD (by rw [used_cF]; show (((7 + D.size + D.size + 0 : Nat)) : Int) + D.size <= 65536; omega) hc
theorem tc_done_el : relD (relD (cF m 1 1 D D) 6) 2 = cF m 0 0 D D := by
 rw [(rel_at ng_cF (d := cF m 1 1 D D) (k := 6) (m := m) (h := 1) (D := D) rfl (by decide) (fun e => absurd (show (1 : Nat) = 0 from e) (by decide))).2]
 exact (rel_at ng_cF (d := cF m 1 0 D D) (k := 2) (m := m) (h := 1) (D := D) rfl (by decide) (fun e => absurd (show (2 : Nat) = 0 from e) (by decide))).2
-- what is told at the end
theorem tc_end {k : Nat} {s : ByteArray} (hs : [(⟨#[98]⟩ : ByteArray), ⟨#[99]⟩, ⟨#[100]⟩, ⟨#[108]⟩, ⟨#[101, 47, 108]⟩][k]? = some s) :
 ∃ n L : Int, (thrR (cF m 0 0 D D) 1 s true).1.node = n ∧ statE (cF m 0 0 D D) (thrR (cF m 0 0 D D) 1 s true) = 0 ∧ statV (cF m 0 0 D D) (thrR (cF m 0 0 D D) 1 s true) = .agg #[.int .i64 1, .int .i64 m, .int .i64 L, .int .i64 0, .int .i64 (D.size : Int)] ∧
   dataOf (cF m 0 0 D D) n = D ∧ s.size <= 3 ∧ (s = ⟨#[99]⟩ ∨ s = ⟨#[100]⟩ -> n = 2 ∧ L = 2) := by
 match k, hs with
 | 0, hs =>
   cases hs
   obtain ⟨h1, h2, h3⟩ := stat_file (d := cF m 0 0 D D) (x := ⟨#[98]⟩) (p := ⟨3, 1, ⟨#[98]⟩⟩) (k := 3) (m := m) (h := 0) (D := D) (fl := true) (thr_at (fnd_at (es := eE) (k := 3) rfl nm_b (by decide) (by decide) (fun _ => by show (1 : Int) ≠ 3; decide)) (by decide)) rfl rfl (L := 1) rfl
   exact ⟨3, 1, h1, h2, h3, rfl, by decide, fun e => by rcases e with e | e <;> exact absurd e (by decide)⟩
 | 1, hs =>
   cases hs
   obtain ⟨h1, h2, h3⟩ := stat_file (d := cF m 0 0 D D) (x := ⟨#[99]⟩) (p := ⟨2, 1, ⟨#[99]⟩⟩) (k := 2) (m := m) (h := 0) (D := D) (fl := true) (thr_at (fnd_at (es := eE) (k := 2) rfl nm_c (by decide) (by decide) (fun _ => by show (1 : Int) ≠ 3; decide)) (by decide)) rfl rfl (L := 2) rfl
   exact ⟨2, 2, h1, h2, h3, rfl, by decide, fun _ => ⟨rfl, rfl⟩⟩
 | 2, hs =>
   cases hs
   obtain ⟨h1, h2, h3⟩ := stat_file (d := cF m 0 0 D D) (x := ⟨#[100]⟩) (p := ⟨2, 1, ⟨#[100]⟩⟩) (k := 2) (m := m) (h := 0) (D := D) (fl := true) (thr_at (fnd_at (es := eE) (k := 2) rfl nm_d (by decide) (by decide) (fun _ => by show (1 : Int) ≠ 3; decide)) (by decide)) rfl rfl (L := 2) rfl
   exact ⟨2, 2, h1, h2, h3, rfl, by decide, fun _ => ⟨rfl, rfl⟩⟩
 | 3, hs =>
   cases hs
   obtain ⟨h1, h2, h3⟩ := stat_file (d := cF m 0 0 D D) (x := ⟨#[108]⟩) (p := ⟨2, 1, ⟨#[99]⟩⟩) (k := 2) (m := m) (h := 0) (D := D) (fl := true) (thr_at (fnd_link (es := eE) (k := 4) (j := 2) (t := ⟨#[99]⟩) rfl nm_l (by decide) (by decide) rfl nm_c (by decide) (by decide) (by show (1 : Int) ≠ 3; decide)) (by decide)) rfl rfl (L := 2) rfl
   exact ⟨2, 2, h1, h2, h3, rfl, by decide, fun e => by rcases e with e | e <;> exact absurd e (by decide)⟩
 | 4, hs =>
   cases hs
   have hf : fndR (cF m 0 0 D D) 1 ⟨#[101, 47, 108]⟩ true = (⟨6, 5, ⟨#[108]⟩⟩, 0) :=
    fnd_two (d := cF m 0 0 D D) (es := eE) (x := ⟨#[101]⟩) (y := ⟨#[108]⟩) (k := 5) (m := 511) (es2 := [(⟨#[108]⟩, 6)]) rfl (by decide) (by decide) (by decide) (by decide) nm_e nm_l (by decide) (by decide) rfl (by decide) (fun j h => by
     have : j = 6 := (Option.some.inj ((show entGet [((⟨#[108]⟩ : ByteArray), (6 : Int))] ⟨#[108]⟩ = some 6 by decide).symm.trans h)).symm
     rw [this]
     show (1 : Int) ≠ 3
     decide)
   obtain ⟨h1, h2, h3⟩ := stat_file (d := cF m 0 0 D D) (x := ⟨#[101, 47, 108]⟩) (p := ⟨6, 5, ⟨#[108]⟩⟩) (k := 6) (m := m) (h := 0) (D := D) (fl := true) (thr_at hf (by decide)) rfl rfl (L := 1) rfl
   exact ⟨6, 1, h1, h2, h3, rfl, by decide, fun e => by rcases e with e | e <;> exact absurd e (by decide)⟩
theorem tc_gone : (thrR (cF m 0 0 D D) 1 ⟨#[97]⟩ false).1.node = 0 ∧ statE (cF m 0 0 D D) (thrR (cF m 0 0 D D) 1 ⟨#[97]⟩ false) = 12 ∧ statV (cF m 0 0 D D) (thrR (cF m 0 0 D D) 1 ⟨#[97]⟩ false) = .agg #[.int .i64 0, .int .i64 0, .int .i64 0, .int .i64 0, .int .i64 0] :=
 stat_none (thr_none (fnd_none (es := eE) rfl nm_a (by decide)) rfl)
theorem tc_link : (thrR (cF m 0 0 D D) 1 ⟨#[108]⟩ false).1.node = 4 ∧ statE (cF m 0 0 D D) (thrR (cF m 0 0 D D) 1 ⟨#[108]⟩ false) = 0 ∧ statV (cF m 0 0 D D) (thrR (cF m 0 0 D D) 1 ⟨#[108]⟩ false) = .agg #[.int .i64 3, .int .i64 511, .int .i64 1, .int .i64 0, .int .i64 1] :=
 stat_link (d := cF m 0 0 D D) (p := ⟨4, 1, ⟨#[108]⟩⟩) (k := 4) (t := ⟨#[99]⟩) (thr_at (fnd_at (es := eE) (k := 4) rfl nm_l (by decide) (by decide) (fun h => by cases h)) (by decide)) rfl rfl rfl
end
theorem tc_mode : ∀ i : Fin 512, okMode (bits BinOp.or IntKind.i64 (i.val : Int) 256) = true ∧ freshM (bits BinOp.or IntKind.i64 (i.val : Int) 256) 0 = bits BinOp.or IntKind.i64 (i.val : Int) 256 ∧ bits BinOp.or IntKind.i64 (i.val : Int) 256 / 256 % 2 = 1 ∧
 bits BinOp.and IntKind.i64 (bits BinOp.or IntKind.i64 (i.val : Int) 256) 511 = bits BinOp.or IntKind.i64 (i.val : Int) 256 := by
 decide +kernel
end Go.Proofs.YtimidmogcbapnaaGreatDoor
namespace Go.Proofs.YtimidmogcbapnaaGreatDoor
open Go Go.RowKit
def tcRows : List (List ByteArray) := [[⟨#[99, 112]⟩, ⟨#[97]⟩, ⟨#[98]⟩], [⟨#[109, 118]⟩, ⟨#[97]⟩, ⟨#[99]⟩], [⟨#[108, 110]⟩, ⟨#[99]⟩, ⟨#[100]⟩], [⟨#[108, 110]⟩, ⟨#[45, 115]⟩, ⟨#[99]⟩, ⟨#[108]⟩], [⟨#[109, 107, 100, 105, 114]⟩, ⟨#[101]⟩], [⟨#[99, 112]⟩, ⟨#[108]⟩, ⟨#[101]⟩]]
def tcD (m : Int) (D : ByteArray) : Nat -> Nds
 | 0 => cA m 0 D
 | 1 => cAB m 0 0 D D
 | 2 => cR eBC m D
 | 3 => cR eBCD m D
 | 4 => cS m D
 | 5 => cE m 0 D
 | _ => cF m 0 0 D D
def tcE (D : ByteArray) : Int := if D = ⟨#[]⟩ then 1 else 2
def tcC (D : ByteArray) : Nat -> Int
 | 0 => 3
 | 1 => 3 + tcE D
 | 2 => 3 + tcE D + 1
 | 3 => 3 + tcE D + 1 + 1
 | 4 => 3 + tcE D + 1 + 1 + 1
 | 5 => 3 + tcE D + 1 + 1 + 1 + 1
 | _ => 3 + tcE D + 1 + 1 + 1 + 1 + tcE D
theorem tcE_bound (D : ByteArray) : 1 <= tcE D ∧ tcE D <= 2 := by unfold tcE; split <;> omega
structure TcOk (m : Int) (D : ByteArray) : Prop where
 ok : okMode m = true
 fr : freshM m 0 = m
 rd : m / 256 % 2 = 1
 an : bits BinOp.and IntKind.i64 m 511 = m
 z : D.size <= 500
structure TcM (w : World) (L : Nat) : Prop where
 row : ∀ k l, tcRows[k]? = some l -> SlAt encStr (fun g => g = L + k) w (some ⟨L + k, 0, none⟩) l.length l
 out : ∀ k l, tcRows[k]? = some l -> w.cell? ⟨L + 6, k, none⟩ = some (.slice (some ⟨L + k, 0, none⟩) l.length l.length)
 lt : L + 6 < w.heap.size
theorem tcRows_lt {k : Nat} {l : List ByteArray} (h : tcRows[k]? = some l) : k < 6 := (List.getElem?_eq_some_iff.1 h).1
theorem TcM.keep {G : Nat -> Prop} {w w' : World} {L : Nat} (h : TcM w L) (k : Keeps G w w') (hG : ∀ g, L <= g -> g <= L + 6 -> ¬ G g) : TcM w' L :=
 ⟨fun i l hl => (h.row i l hl).keep k (fun g hg _ => by have := tcRows_lt hl; exact hG g (by omega) (by omega)),
  fun i l hl => (k.cell (p := ⟨L + 6, i, none⟩) h.lt (hG _ (by show L <= L + 6; omega) (by show L + 6 <= L + 6; omega))).trans (h.out i l hl), Nat.lt_of_lt_of_le h.lt k.size⟩
def tcA0 : Array Value := #[.string ⟨#[99, 112]⟩, .string ⟨#[97]⟩, .string ⟨#[98]⟩]
def tcA1 : Array Value := #[.string ⟨#[109, 118]⟩, .string ⟨#[97]⟩, .string ⟨#[99]⟩]
def tcA2 : Array Value := #[.string ⟨#[108, 110]⟩, .string ⟨#[99]⟩, .string ⟨#[100]⟩]
def tcA3 : Array Value := #[.string ⟨#[108, 110]⟩, .string ⟨#[45, 115]⟩, .string ⟨#[99]⟩, .string ⟨#[108]⟩]
def tcA4 : Array Value := #[.string ⟨#[109, 107, 100, 105, 114]⟩, .string ⟨#[101]⟩]
def tcA5 : Array Value := #[.string ⟨#[99, 112]⟩, .string ⟨#[108]⟩, .string ⟨#[101]⟩]
def tcW1 (w : World) : World := w.alloc (.cells tcA0 9)
def tcW2 (w : World) : World := (tcW1 w).alloc (.cells tcA1 9)
def tcW3 (w : World) : World := (tcW2 w).alloc (.cells tcA2 9)
def tcW4 (w : World) : World := (tcW3 w).alloc (.cells tcA3 9)
def tcW5 (w : World) : World := (tcW4 w).alloc (.cells tcA4 9)
def tcW6 (w : World) : World := (tcW5 w).alloc (.cells tcA5 9)
def tcA6 (L : Nat) : Array Value := #[.slice (some ⟨L, 0, none⟩) 3 3, .slice (some ⟨L + 1, 0, none⟩) 3 3, .slice (some ⟨L + 1 + 1, 0, none⟩) 3 3, .slice (some ⟨L + 1 + 1 + 1, 0, none⟩) 4 4, .slice (some ⟨L + 1 + 1 + 1 + 1, 0, none⟩) 2 2, .slice (some ⟨L + 1 + 1 + 1 + 1 + 1, 0, none⟩) 3 3]
def tcW7 (w : World) : World := (tcW6 w).alloc (.cells (tcA6 w.heap.size) 34)
theorem tcz1 (w : World) : (tcW1 w).heap.size = w.heap.size + 1 := by unfold tcW1; simp
theorem tcz2 (w : World) : (tcW2 w).heap.size = w.heap.size + 2 := by unfold tcW2; simp [tcz1]
theorem tcz3 (w : World) : (tcW3 w).heap.size = w.heap.size + 3 := by unfold tcW3; simp [tcz2]
theorem tcz4 (w : World) : (tcW4 w).heap.size = w.heap.size + 4 := by unfold tcW4; simp [tcz3]
theorem tcz5 (w : World) : (tcW5 w).heap.size = w.heap.size + 5 := by unfold tcW5; simp [tcz4]
theorem tcz6 (w : World) : (tcW6 w).heap.size = w.heap.size + 6 := by unfold tcW6; simp [tcz5]
theorem tcz7 (w : World) : (tcW7 w).heap.size = w.heap.size + 7 := by unfold tcW7; simp [tcz6]
theorem tck (w : World) : Keeps NoB w (tcW1 w) ∧ Keeps NoB (tcW1 w) (tcW2 w) ∧ Keeps NoB (tcW2 w) (tcW3 w) ∧ Keeps NoB (tcW3 w) (tcW4 w) ∧ Keeps NoB (tcW4 w) (tcW5 w) ∧ Keeps NoB (tcW5 w) (tcW6 w) ∧ Keeps NoB (tcW6 w) (tcW7 w) :=
 ⟨(Keeps.refl _ _).alloc _, (Keeps.refl _ _).alloc _, (Keeps.refl _ _).alloc _, (Keeps.refl _ _).alloc _, (Keeps.refl _ _).alloc _, (Keeps.refl _ _).alloc _, (Keeps.refl _ _).alloc _⟩
theorem tc_keeps (w : World) : Keeps NoB w (tcW7 w) := by
 obtain ⟨k1, k2, k3, k4, k5, k6, k7⟩ := tck w
 exact (((((k1.trans k2).trans k3).trans k4).trans k5).trans k6).trans k7
theorem tcm_lay (w : World) : TcM (tcW7 w) w.heap.size := by
 obtain ⟨k1, k2, k3, k4, k5, k6, k7⟩ := tck w
 refine ⟨fun k l hl => ?_, fun k l hl => ?_, by rw [tcz7]; omega⟩
 ·match k, hl with
  | 0, hl =>
    cases hl
    exact ((own_lit (E := encStr) (e := 9) (w := w) (S := fun g => g = w.heap.size + 0) [⟨#[99, 112]⟩, ⟨#[97]⟩, ⟨#[98]⟩] tcA0 rfl 3 rfl rfl (by decide)).at).keepN (((((k2.trans k3).trans k4).trans k5).trans k6).trans k7)
  | 1, hl =>
    cases hl
    have := (own_lit (E := encStr) (e := 9) (w := tcW1 w) (S := fun g => g = w.heap.size + 1) [⟨#[109, 118]⟩, ⟨#[97]⟩, ⟨#[99]⟩] tcA1 rfl 3 rfl (tcz1 w) (by decide)).at
    rw [tcz1] at this
    exact SlAt.keepN this ((((k3.trans k4).trans k5).trans k6).trans k7)
  | 2, hl =>
    cases hl
    have := (own_lit (E := encStr) (e := 9) (w := tcW2 w) (S := fun g => g = w.heap.size + 2) [⟨#[108, 110]⟩, ⟨#[99]⟩, ⟨#[100]⟩] tcA2 rfl 3 rfl (tcz2 w) (by decide)).at
    rw [tcz2] at this
    exact SlAt.keepN this (((k4.trans k5).trans k6).trans k7)
  | 3, hl =>
    cases hl
    have := (own_lit (E := encStr) (e := 9) (w := tcW3 w) (S := fun g => g = w.heap.size + 3) [⟨#[108, 110]⟩, ⟨#[45, 115]⟩, ⟨#[99]⟩, ⟨#[108]⟩] tcA3 rfl 4 rfl (tcz3 w) (by decide)).at
    rw [tcz3] at this
    exact SlAt.keepN this ((k5.trans k6).trans k7)
  | 4, hl =>
    cases hl
    have := (own_lit (E := encStr) (e := 9) (w := tcW4 w) (S := fun g => g = w.heap.size + 4) [⟨#[109, 107, 100, 105, 114]⟩, ⟨#[101]⟩] tcA4 rfl 2 rfl (tcz4 w) (by decide)).at
    rw [tcz4] at this
    exact SlAt.keepN this (k6.trans k7)
  | 5, hl =>
    cases hl
    have := (own_lit (E := encStr) (e := 9) (w := tcW5 w) (S := fun g => g = w.heap.size + 5) [⟨#[99, 112]⟩, ⟨#[108]⟩, ⟨#[101]⟩] tcA5 rfl 3 rfl (tcz5 w) (by decide)).at
    rw [tcz5] at this
    exact SlAt.keepN this k7
  | k + 6, hl => cases hl
 ·have hb : Bx (tcW7 w) (w.heap.size + 6) (tcA6 w.heap.size).toList := by
   have := Bx.new (Keeps.refl NoB ((tcW6 w).alloc (.cells (tcA6 w.heap.size) 34)))
   rw [tcz6] at this
   exact this
  match k, hl with
  | 0, hl => cases hl; exact hb.cell 0 _ rfl
  | 1, hl => cases hl; exact hb.cell 1 _ rfl
  | 2, hl => cases hl; exact hb.cell 2 _ rfl
  | 3, hl => cases hl; exact hb.cell 3 _ rfl
  | 4, hl => cases hl; exact hb.cell 4 _ rfl
  | 5, hl => cases hl; exact hb.cell 5 _ rfl
  | k + 6, hl => cases hl
section
variable {W : World} {Q : Nat -> Prop} {F a : Nat}
theorem fsx_call {w : World} {d d' : Nds} {room calls calls' fail : Int} {f : Nat} {args : Array Value} {V : Value} {B : Nat} {l : List Value} (h : FSx W Q w F a d room calls fail) (hb : Bx w B l) (hQ : Q B) (hc : ∀ N : Nat -> Prop, FSt N w F a d room calls fail -> Calls Tryz.prog f args w (FTo N w F a d' room calls' fail V)) :
 Calls Tryz.prog f args w fun e w' => e = .returned V ∧ FSx W Q w' F a d' room calls' fail ∧ Bx w' B l := by
 refine (h.call hc).mono ?_
 rintro e w' ⟨rfl, h1, h2⟩
 exact ⟨rfl, h1, h.kept hb h2 hQ⟩
end
theorem tcRows_some {k : Nat} (h : k < 6) : ∃ nm args, tcRows[k]? = some (nm :: args) := by
 match k, h with
 | 0, _ => exact ⟨_, _, rfl⟩
 | 1, _ => exact ⟨_, _, rfl⟩
 | 2, _ => exact ⟨_, _, rfl⟩
 | 3, _ => exact ⟨_, _, rfl⟩
 | 4, _ => exact ⟨_, _, rfl⟩
 | 5, _ => exact ⟨_, _, rfl⟩
def tcNames : List ByteArray := [⟨#[98]⟩, ⟨#[99]⟩, ⟨#[100]⟩, ⟨#[108]⟩, ⟨#[101, 47, 108]⟩]
section
variable {W w : World} {Q : Nat -> Prop} {B F a : Nat} {d d' : Nds} {room calls fail at' mask st : Int} {name out err : ByteArray} {iv : Value}
theorem put_full {s data : ByteArray} {m id : Int} {d1 d2 : Nds} {calls1 : Int} (h : TW W Q w B F a d room calls fail (wkC name F at' mask iv out err st)) (hs : s.size <= 1000) (hc0 : 0 <= calls) (hc1 : calls <= 4611686018427387900) (hb : mass d + 3 <= 2147483648)
 (hN : openN calls 14 = calls1) (hO : DInv d -> NoGarb d -> openF calls fail d room at' mask s 14 m = (d1, id, 0)) (hd0 : ¬ data = ⟨#[]⟩) (hds : data.size <= 1000) (hW : DInv d1 -> NoGarb d1 -> wrtF calls1 fail d1 room id 0 data = (d2, 0)) :
 Calls Tryz.prog 80 #[.pointer (some ⟨B, 0, none⟩), .string s, .string data, .int .i64 m] w fun e w' => e = .returned (.int .i64 0) ∧ TW W Q w' B F a (relD d2 id) room (calls1 + 1) fail (wkC name F at' mask iv out err st) ∧ Keeps (Lw W Q) w w' := by
 have HT := Lib.hid h
 have hcn : 0 <= calls1 ∧ calls1 <= 4611686018427387904 := by
  rw [<- hN]; unfold openN; split <;> omega
 have HO : Hid (∀ w1 : World, TW W Q w1 B F a d room calls fail (wkC name F at' mask iv out err st) -> Calls Tryz.prog 7 #[.pointer (some ⟨F, 0, none⟩), .agg #[.int .i64 at', .int .i64 mask], .string s, .int .i64 14, .int .i64 m] w1 fun e w' => e = .returned (.tuple #[.int .i64 id, .int .i64 0]) ∧ TW W Q w' B F a d1 room calls1 fail (wkC name F at' mask iv out err st) ∧ Keeps (Gd W Q B) w1 w') := Lib.hid fun w1 k => by
  have := k.call (fun N hN => open_any hN hc0 (by omega) hb at' mask s 14 m (by omega))
  rw [hO k.fx.inv k.fx.clean, hN] at this
  exact this
 have HWt : Hid (∀ w1 : World, TW W Q w1 B F a d1 room calls1 fail (wkC name F at' mask iv out err st) -> Calls Tryz.prog 8 #[.pointer (some ⟨F, 0, none⟩), .int .i64 id, .int .i64 0, .string data] w1 fun e w' => e = .returned (.int .i64 0) ∧ TW W Q w' B F a d2 room (calls1 + 1) fail (wkC name F at' mask iv out err st) ∧ Keeps (Gd W Q B) w1 w') := Lib.hid fun w1 k => by
  have := k.call (fun N hN => fwrite_any hN hcn.1 hcn.2 id 0 data (by omega))
  rw [hW k.fx.inv k.fx.clean] at this
  exact this
 have hz := notEmpty_eq hd0
 have HCl := Lib.hid (fun (w1 : World) (k : TW W Q w1 B F a d2 room (calls1 + 1) fail (wkC name F at' mask iv out err st)) => k.call (fun N hN => close_any hN id))
 obtain ⟨re, hre⟩ : ∃ re, relErr d2 id = re := ⟨_, rfl⟩
 rw [hre] at HCl
 clear h hO hN hre hW hd0 hc0 hc1 hb
 go_enter Tryz.func80, Tryz.ntmps80
 have f0 := HT.out.bx.cell 1 _ rfl
 have b0 := HT.out.bx.cell 2 _ rfl
 have b1 := HT.out.bx.cell 3 _ rfl
 have fl := HT.out.bx.lt
 go_upto_region 1 with fail
 go_cut [9, 10] from 11 to 24 (fun x y wx => ∃ wn : World, wn = wx ∧ x = .int .i64 id ∧ y = .int .i64 0 ∧ TW W Q wx B F a d1 room calls1 fail (wkC name F at' mask iv out err st) ∧ Keeps (Lw W Q) w wx)
 case first =>
  have krd := (Keeps.refl NoB w).drew
  have d0 := (HT.out.on krd).bx.cell 1 _ rfl
  have d1 := (HT.out.on krd).bx.cell 2 _ rfl
  have d2 := (HT.out.on krd).bx.cell 3 _ rfl
  go_region_held3 (fun wz => wz.cell? ⟨B, 1, none⟩ = some (.pointer (some ⟨F, 0, none⟩)) ∧ wz.cell? ⟨B, 2, none⟩ = some (.int .i64 at') ∧ wz.cell? ⟨B, 3, none⟩ = some (.int .i64 mask)) (refine ⟨?_, ?_, ?_⟩ <;> first | with_reducible assumption)
   (first | (go_at_call 7; refine (HO.out _ (HT.out.on (by (repeat (first | with_reducible assumption | (with_reducible exact Keeps.refl _ _) | (with_reducible refine Keeps.drew ?_) | (with_reducible refine Keeps.drewN ?_ _) | (with_reducible refine Keeps.alloc ?_ _) | (with_reducible refine Keeps.setCell ?_ (by first | exact Or.inl rfl | exact Or.inr (Nat.le_refl _) | exact Or.inr (by first | (simp; done) | (simp; omega))) _)))))).mono ?_; rintro e w2 ⟨rfl, ht2, hk2⟩; have hl2 : Keeps (Lw W Q) w w2 := Keeps.trans (Keeps.of_none (by (repeat (first | with_reducible assumption | (with_reducible exact Keeps.refl _ _) | (with_reducible refine Keeps.drew ?_) | (with_reducible refine Keeps.drewN ?_ _) | (with_reducible refine Keeps.alloc ?_ _) | (with_reducible refine Keeps.setCell ?_ (by first | exact Or.inl rfl | exact Or.inr (Nat.le_refl _) | exact Or.inr (by first | (simp; done) | (simp; omega))) _))))) (gd_low hk2); have z0 := ht2.bx.cell 1 _ rfl; have z1 := ht2.bx.cell 2 _ rfl; have z2 := ht2.bx.cell 3 _ rfl))
  all_goals (go_wp2_with fail; go_meet; exact ⟨_, rfl, rfl, rfl, ht2, hl2⟩)
 case rest =>
  obtain ⟨wx, rfl, rfl, rfl, htwx, hkwx⟩ := hcut
  have HTwx := Lib.hid htwx
  have HKwx := Lib.hid hkwx
  clear f0 b0 b1 fl HO htwx hkwx
  have f0 := HTwx.out.bx.cell 1 _ rfl
  have fl := HTwx.out.bx.lt
  go_wp2_with (first | (go_at_call 8; go_loud (refine (HWt.out _ HTwx.out).mono ?_); rintro e w4 ⟨rfl, ht4, hk4⟩; have f4 := ht4.bx.cell 1 _ rfl) | (go_at_call 9; go_loud (refine (HCl.out _ ht4).mono ?_); rintro e w5 ⟨rfl, ht5, hk5⟩))
  go_ret
  exact ⟨rfl, ht5, (HKwx.out.trans (gd_low hk4)).trans (gd_low hk5)⟩
theorem put_none {s data : ByteArray} {m id : Int} {d1 : Nds} {calls1 : Int} (h : TW W Q w B F a d room calls fail (wkC name F at' mask iv out err st)) (hs : s.size <= 1000) (hc0 : 0 <= calls) (hc1 : calls <= 4611686018427387900) (hb : mass d + 3 <= 2147483648)
 (hN : openN calls 14 = calls1) (hO : DInv d -> NoGarb d -> openF calls fail d room at' mask s 14 m = (d1, id, 0)) (hd0 : data = ⟨#[]⟩) :
 Calls Tryz.prog 80 #[.pointer (some ⟨B, 0, none⟩), .string s, .string data, .int .i64 m] w fun e w' => e = .returned (.int .i64 0) ∧ TW W Q w' B F a (relD d1 id) room calls1 fail (wkC name F at' mask iv out err st) ∧ Keeps (Lw W Q) w w' := by
 have HT := Lib.hid h
 have hcn : 0 <= calls1 ∧ calls1 <= 4611686018427387904 := by
  rw [<- hN]; unfold openN; split <;> omega
 have HO : Hid (∀ w1 : World, TW W Q w1 B F a d room calls fail (wkC name F at' mask iv out err st) -> Calls Tryz.prog 7 #[.pointer (some ⟨F, 0, none⟩), .agg #[.int .i64 at', .int .i64 mask], .string s, .int .i64 14, .int .i64 m] w1 fun e w' => e = .returned (.tuple #[.int .i64 id, .int .i64 0]) ∧ TW W Q w' B F a d1 room calls1 fail (wkC name F at' mask iv out err st) ∧ Keeps (Gd W Q B) w1 w') := Lib.hid fun w1 k => by
  have := k.call (fun N hN => open_any hN hc0 (by omega) hb at' mask s 14 m (by omega))
  rw [hO k.fx.inv k.fx.clean, hN] at this
  exact this
 subst hd0
 have HCl := Lib.hid (fun (w1 : World) (k : TW W Q w1 B F a d1 room calls1 fail (wkC name F at' mask iv out err st)) => k.call (fun N hN => close_any hN id))
 obtain ⟨re, hre⟩ : ∃ re, relErr d1 id = re := ⟨_, rfl⟩
 rw [hre] at HCl
 clear h hO hN hre  hc0 hc1 hb
 go_enter Tryz.func80, Tryz.ntmps80
 have f0 := HT.out.bx.cell 1 _ rfl
 have b0 := HT.out.bx.cell 2 _ rfl
 have b1 := HT.out.bx.cell 3 _ rfl
 have fl := HT.out.bx.lt
 go_upto_region 1 with fail
 go_cut [9, 10] from 11 to 24 (fun x y wx => ∃ wn : World, wn = wx ∧ x = .int .i64 id ∧ y = .int .i64 0 ∧ TW W Q wx B F a d1 room calls1 fail (wkC name F at' mask iv out err st) ∧ Keeps (Lw W Q) w wx)
 case first =>
  have krd := (Keeps.refl NoB w).drew
  have d0 := (HT.out.on krd).bx.cell 1 _ rfl
  have d1 := (HT.out.on krd).bx.cell 2 _ rfl
  have d2 := (HT.out.on krd).bx.cell 3 _ rfl
  go_region_held3 (fun wz => wz.cell? ⟨B, 1, none⟩ = some (.pointer (some ⟨F, 0, none⟩)) ∧ wz.cell? ⟨B, 2, none⟩ = some (.int .i64 at') ∧ wz.cell? ⟨B, 3, none⟩ = some (.int .i64 mask)) (refine ⟨?_, ?_, ?_⟩ <;> first | with_reducible assumption)
   (first | (go_at_call 7; refine (HO.out _ (HT.out.on (by (repeat (first | with_reducible assumption | (with_reducible exact Keeps.refl _ _) | (with_reducible refine Keeps.drew ?_) | (with_reducible refine Keeps.drewN ?_ _) | (with_reducible refine Keeps.alloc ?_ _) | (with_reducible refine Keeps.setCell ?_ (by first | exact Or.inl rfl | exact Or.inr (Nat.le_refl _) | exact Or.inr (by first | (simp; done) | (simp; omega))) _)))))).mono ?_; rintro e w2 ⟨rfl, ht2, hk2⟩; have hl2 : Keeps (Lw W Q) w w2 := Keeps.trans (Keeps.of_none (by (repeat (first | with_reducible assumption | (with_reducible exact Keeps.refl _ _) | (with_reducible refine Keeps.drew ?_) | (with_reducible refine Keeps.drewN ?_ _) | (with_reducible refine Keeps.alloc ?_ _) | (with_reducible refine Keeps.setCell ?_ (by first | exact Or.inl rfl | exact Or.inr (Nat.le_refl _) | exact Or.inr (by first | (simp; done) | (simp; omega))) _))))) (gd_low hk2); have z0 := ht2.bx.cell 1 _ rfl; have z1 := ht2.bx.cell 2 _ rfl; have z2 := ht2.bx.cell 3 _ rfl))
  all_goals (go_wp2_with fail; go_meet; exact ⟨_, rfl, rfl, rfl, ht2, hl2⟩)
 case rest =>
  obtain ⟨wx, rfl, rfl, rfl, htwx, hkwx⟩ := hcut
  have HTwx := Lib.hid htwx
  have HKwx := Lib.hid hkwx
  clear f0 b0 b1 fl HO htwx hkwx
  have f0 := HTwx.out.bx.cell 1 _ rfl
  have fl := HTwx.out.bx.lt
  go_wp2_with (first | (go_at_call 8; go_loud (refine (HCl.out _ HTwx.out).mono ?_); rintro e w4 ⟨rfl, ht4, hk4⟩; have f4 := ht4.bx.cell 1 _ rfl) | (go_at_call 9; go_loud (refine (HCl.out _ HTwx.out).mono ?_); rintro e w5 ⟨rfl, ht5, hk5⟩))
  go_ret
  exact ⟨rfl, ht5, HKwx.out.trans (gd_low hk5)⟩
end
section
variable {W w : World} {Q : Nat -> Prop} {B F a : Nat} {d d' : Nds} {room calls fail at' mask st : Int} {name out err : ByteArray} {iv : Value}
theorem close_d {cs : List Value} {u : FrameMode} (h : TW W Q w B F a d room calls fail cs) (id : Int) :
 CallsD Tryz.prog 9 #[.pointer (some ⟨F, 0, none⟩), .int .i64 id] u w fun e u' w' => u' = u ∧ (e = .returned (.int .i64 (relErr d id)) ∧ TW W Q w' B F a (relD d id) room calls fail cs ∧ Keeps (Gd W Q B) w w') := by
 have HR := Lib.hid (h.call fun N hN => hN.prog2 fun R hR => release_any hR id)
 rw [show (if relErr d id = 0 then gc (relTo d id) else d) = relD d id from rfl] at HR
 have f0 : w.cell? ⟨F, 0, none⟩ = some (.pointer (some ⟨a, 0, none⟩)) := by
  obtain ⟨N, _, _, hN⟩ := h.fx.ex
  exact hN.c0
 clear h
 go_enter_d Tryz.func9, Tryz.ntmps9
 go_wp2_with (go_at_call 25; go_loud (refine HR.out.mono ?_); rintro e w2 ⟨rfl, FS, k⟩)
 go_ret
 exact ⟨rfl, FS, k⟩
theorem copy_full {s b data : ByteArray} {m id id2 : Int} {d1 d2 d3 : Nds} {calls1 : Int} (h : TW W Q w B F a d room calls fail (wkC name F at' mask iv out err st)) (hs : s.size <= 1000) (hsb : b.size <= 1000) (hc0 : 0 <= calls) (hc1 : calls <= 4611686018427387900) (hb : mass d + 3 <= 2147483648) (hb1 : mass d1 + 3 <= 2147483648)
 (hO : DInv d -> NoGarb d -> openF calls fail d room at' mask s 1 0 = (d1, id, 0))
 {jk jm jl jh jz : Int} (hI : infoAt d1 id = .agg #[.int .i64 jk, .int .i64 jm, .int .i64 jl, .int .i64 jh, .int .i64 jz]) {je : Int} (hIe : (if has d1 id then (0 : Int) else 12) = je) (hjm : bits BinOp.and IntKind.i64 jm 511 = m)
 {n ik im il ih iz : Int} (hn : (thrR d1 at' b true).1.node = n) (hV : statV d1 (thrR d1 at' b true) = .agg #[.int .i64 ik, .int .i64 im, .int .i64 il, .int .i64 ih, .int .i64 iz]) (hE : statE d1 (thrR d1 at' b true) = 12)
 (hR : readOf d1 id 0 4194304 = data)
 (hN : openN calls 14 = calls1) (hO2 : DInv d1 -> NoGarb d1 -> openF calls fail d1 room at' mask b 14 m = (d2, id2, 0)) (hd0 : ¬ data = ⟨#[]⟩) (hds : data.size <= 1000) (hW : DInv d2 -> NoGarb d2 -> wrtF calls1 fail d2 room id2 0 data = (d3, 0)) :
 Calls Tryz.prog 74 #[.pointer (some ⟨B, 0, none⟩), .string s, .string b] w fun e w' => e = .returned (.int .i64 0) ∧ TW W Q w' B F a (relD (relD d3 id2) id) room (calls1 + 1) fail (wkC name F at' mask iv out err st) ∧ Keeps (Lw W Q) w w' := by
 have HT := Lib.hid h
 have HO : Hid (∀ w1 : World, TW W Q w1 B F a d room calls fail (wkC name F at' mask iv out err st) -> Calls Tryz.prog 7 #[.pointer (some ⟨F, 0, none⟩), .agg #[.int .i64 at', .int .i64 mask], .string s, .int .i64 1, .int .i64 0] w1 fun e w' => e = .returned (.tuple #[.int .i64 id, .int .i64 0]) ∧ TW W Q w' B F a d1 room calls fail (wkC name F at' mask iv out err st) ∧ Keeps (Gd W Q B) w1 w') := Lib.hid fun w1 k => by
  have := k.call (fun N hN => open_any hN hc0 (by omega) hb at' mask s 1 0 (by omega))
  rw [hO k.fx.inv k.fx.clean, show openN calls 1 = calls by unfold openN; rw [if_neg (by decide)]] at this
  exact this
 have HDk := Lib.hid (fun (w1 : World) (k : TW W Q w1 B F a d1 room calls fail (wkC name F at' mask iv out err st)) => k.fx.asks fun N hN => disk_any hN)
 have HIn : Hid (∀ w1 : World, TW W Q w1 B F a d1 room calls fail (wkC name F at' mask iv out err st) -> Calls Tryz.prog 37 #[.pointer (some ⟨a, 0, none⟩), .int .i64 id] w1 fun e w' => e = .returned (.tuple #[.agg #[.int .i64 jk, .int .i64 jm, .int .i64 jl, .int .i64 jh, .int .i64 jz], .int .i64 je]) ∧ Keeps NoB w1 w') := Lib.hid fun w1 k => k.fx.asks fun N hN => by
  have := hN.info id
  rw [hI, hIe] at this
  exact this
 have HRd := Lib.hid (fun (w1 : World) (k : TW W Q w1 B F a d1 room calls fail (wkC name F at' mask iv out err st)) => k.fx.asks fun N hN => fread_any hN id 0 4194304)
 rw [hR] at HRd
 obtain ⟨re, hre⟩ : ∃ re, readErr d1 id 0 4194304 = re := ⟨_, rfl⟩
 rw [hre] at HRd
 have HP := Lib.hid (fun (w1 : World) (k : TW W Q w1 B F a d1 room calls fail (wkC name F at' mask iv out err st)) => put_full k hsb hc0 hc1 hb1 hN hO2 hd0 hds hW)
 have HCl := Lib.hid (fun (w1 : World) (k : TW W Q w1 B F a (relD d3 id2) room (calls1 + 1) fail (wkC name F at' mask iv out err st)) => close_d (u := .returning) k id)
 have HV := Lib.hid hV
 have HE := Lib.hid hE
 have HSz : Hid (b.size <= 4294967280) := by show _ <= _; omega
 clear h hO hI hIe hV hE hR hre hN hO2 hd0 hds hW hc0 hc1 hb hb1 hs hsb
 go_enter_defers Tryz.func74, Tryz.ntmps74
 have f0 := HT.out.bx.cell 1 _ rfl
 have b0 := HT.out.bx.cell 2 _ rfl
 have b1 := HT.out.bx.cell 3 _ rfl
 have fl := HT.out.bx.lt
 go_upto_region 1 with fail
 go_cut [7, 8] from 16 to 28 (fun x y wx => ∃ wn : World, wn = wx ∧ x = .int .i64 id ∧ y = .int .i64 0 ∧ TW W Q wx B F a d1 room calls fail (wkC name F at' mask iv out err st) ∧ Keeps (Lw W Q) w wx)
 case first =>
  have krd := (Keeps.refl NoB w).drew
  have d0 := (HT.out.on krd).bx.cell 1 _ rfl
  have d1 := (HT.out.on krd).bx.cell 2 _ rfl
  have d2 := (HT.out.on krd).bx.cell 3 _ rfl
  go_region_held3 (fun wz => wz.cell? ⟨B, 1, none⟩ = some (.pointer (some ⟨F, 0, none⟩)) ∧ wz.cell? ⟨B, 2, none⟩ = some (.int .i64 at') ∧ wz.cell? ⟨B, 3, none⟩ = some (.int .i64 mask)) (refine ⟨?_, ?_, ?_⟩ <;> first | with_reducible assumption)
   (first | (go_at_call 7; refine (HO.out _ (HT.out.on (by (repeat (first | with_reducible assumption | (with_reducible exact Keeps.refl _ _) | (with_reducible refine Keeps.drew ?_) | (with_reducible refine Keeps.drewN ?_ _) | (with_reducible refine Keeps.alloc ?_ _) | (with_reducible refine Keeps.setCell ?_ (by first | exact Or.inl rfl | exact Or.inr (Nat.le_refl _) | exact Or.inr (by first | (simp; done) | (simp; omega))) _)))))).mono ?_; rintro e w2 ⟨rfl, ht2, hk2⟩; have hl2 : Keeps (Lw W Q) w w2 := Keeps.trans (Keeps.of_none (by (repeat (first | with_reducible assumption | (with_reducible exact Keeps.refl _ _) | (with_reducible refine Keeps.drew ?_) | (with_reducible refine Keeps.drewN ?_ _) | (with_reducible refine Keeps.alloc ?_ _) | (with_reducible refine Keeps.setCell ?_ (by first | exact Or.inl rfl | exact Or.inr (Nat.le_refl _) | exact Or.inr (by first | (simp; done) | (simp; omega))) _))))) (gd_low hk2); have z0 := ht2.bx.cell 1 _ rfl; have z1 := ht2.bx.cell 2 _ rfl; have z2 := ht2.bx.cell 3 _ rfl))
  all_goals (go_wp2_with fail; go_meet; exact ⟨_, rfl, rfl, rfl, ht2, hl2⟩)
 case rest =>
  obtain ⟨wx, rfl, rfl, rfl, htwx, hkwx⟩ := hcut
  have HTwx := Lib.hid htwx
  have HKwx := Lib.hid hkwx
  clear f0 b0 b1 fl HO htwx hkwx
  have f0 := HTwx.out.bx.cell 1 _ rfl
  have fl := HTwx.out.bx.lt
  go_upto_region 6 with (first | (go_at_call 13; go_loud (refine (HDk.out _ HTwx.out).mono ?_); rintro e w3 ⟨rfl, rfl⟩) | (go_at_call 37; go_loud (refine (HIn.out _ HTwx.out).mono ?_); rintro e w4 ⟨rfl, hk4⟩))
  have hk5 : Keeps NoB wx (w4.alloc (.cells #[.int .i64 jk, .int .i64 jm, .int .i64 jl, .int .i64 jh, .int .i64 jz] 42)) := hk4.alloc _
  have HJ := Lib.hid (Bx.new (Keeps.refl NoB (w4.alloc (.cells #[.int .i64 jk, .int .i64 jm, .int .i64 jl, .int .i64 jh, .int .i64 jz] 42))))
  have HT5 := Lib.hid (HTwx.out.on hk5)
  have HK5 := Lib.hid (HKwx.out.trans hk5.of_none)
  clear f0 fl hk4 hk5 HTwx HKwx HDk HIn
  generalize w4.alloc (.cells #[.int .i64 jk, .int .i64 jm, .int .i64 jl, .int .i64 jh, .int .i64 jz] 42) = w5 at *
  generalize w4.heap.size = JB at *
  have HSt := Lib.hid (fun (w1 : World) (k : Keeps NoB w5 w1) => (HT5.out.fx.on k).asks fun N hN => stat_any hN at' mask b true HSz.out)
  rw [HV.out, HE.out, hn] at HSt
  clear hn
  have f0 := HT5.out.bx.cell 1 _ rfl
  have b0 := HT5.out.bx.cell 2 _ rfl
  have b1 := HT5.out.bx.cell 3 _ rfl
  have fl := HT5.out.bx.lt
  go_upto_region 6 with fail
  go_cut [11, 12, 13] from 47 to 60 (fun x y z wx => ∃ G : Nat, ∃ wn : World, wn = wx ∧ w5.heap.size <= G ∧ x = .int .i64 n ∧ y = .pointer (some ⟨G, 0, none⟩) ∧ z = .int .i64 12 ∧ Bx wx G [.int .i64 ik, .int .i64 im, .int .i64 il, .int .i64 ih, .int .i64 iz] ∧ Keeps NoB w5 wx)
  case first =>
   have kr := Keeps.refl NoB w5
   have krd := kr.drew
   have d0 := (HT5.out.on krd).bx.cell 1 _ rfl
   have d1 := (HT5.out.on krd).bx.cell 2 _ rfl
   have d2 := (HT5.out.on krd).bx.cell 3 _ rfl
   go_region_held3 (fun wz => wz.cell? ⟨B, 1, none⟩ = some (.pointer (some ⟨F, 0, none⟩)) ∧ wz.cell? ⟨B, 2, none⟩ = some (.int .i64 at') ∧ wz.cell? ⟨B, 3, none⟩ = some (.int .i64 mask) ∧ Keeps NoB w5 wz) (refine ⟨?_, ?_, ?_, ?_⟩ <;> first | with_reducible assumption | (with_reducible refine (HT5.out.on ?_).bx.cell 1 _ rfl; (repeat (first | with_reducible assumption | (with_reducible exact Keeps.refl _ _) | (with_reducible refine Keeps.drew ?_) | (with_reducible refine Keeps.drewN ?_ _) | (with_reducible refine Keeps.alloc ?_ _) | (with_reducible refine Keeps.setCell ?_ (by first | exact Or.inl rfl | exact Or.inr (Nat.le_refl _) | exact Or.inr (by first | (simp; done) | (simp; omega))) _))); done) | (with_reducible refine (HT5.out.on ?_).bx.cell 2 _ rfl; (repeat (first | with_reducible assumption | (with_reducible exact Keeps.refl _ _) | (with_reducible refine Keeps.drew ?_) | (with_reducible refine Keeps.drewN ?_ _) | (with_reducible refine Keeps.alloc ?_ _) | (with_reducible refine Keeps.setCell ?_ (by first | exact Or.inl rfl | exact Or.inr (Nat.le_refl _) | exact Or.inr (by first | (simp; done) | (simp; omega))) _))); done) | (with_reducible refine (HT5.out.on ?_).bx.cell 3 _ rfl; (repeat (first | with_reducible assumption | (with_reducible exact Keeps.refl _ _) | (with_reducible refine Keeps.drew ?_) | (with_reducible refine Keeps.drewN ?_ _) | (with_reducible refine Keeps.alloc ?_ _) | (with_reducible refine Keeps.setCell ?_ (by first | exact Or.inl rfl | exact Or.inr (Nat.le_refl _) | exact Or.inr (by first | (simp; done) | (simp; omega))) _))); done) | ((repeat (first | with_reducible assumption | (with_reducible exact Keeps.refl _ _) | (with_reducible refine Keeps.drew ?_) | (with_reducible refine Keeps.drewN ?_ _) | (with_reducible refine Keeps.alloc ?_ _) | (with_reducible refine Keeps.setCell ?_ (by first | exact Or.inl rfl | exact Or.inr (Nat.le_refl _) | exact Or.inr (by first | (simp; done) | (simp; omega))) _))); done))
    (first | (go_at_call 12; refine (HSt.out _ (by (repeat (first | with_reducible assumption | (with_reducible exact Keeps.refl _ _) | (with_reducible refine Keeps.drew ?_) | (with_reducible refine Keeps.drewN ?_ _) | (with_reducible refine Keeps.alloc ?_ _) | (with_reducible refine Keeps.setCell ?_ (by first | exact Or.inl rfl | exact Or.inr (Nat.le_refl _) | exact Or.inr (by first | (simp; done) | (simp; omega))) _))))).mono ?_; rintro e w2 ⟨rfl, hk2⟩; have zky : Keeps NoB w5 w2 := Keeps.trans (by (repeat (first | with_reducible assumption | (with_reducible exact Keeps.refl _ _) | (with_reducible refine Keeps.drew ?_) | (with_reducible refine Keeps.drewN ?_ _) | (with_reducible refine Keeps.alloc ?_ _) | (with_reducible refine Keeps.setCell ?_ (by first | exact Or.inl rfl | exact Or.inr (Nat.le_refl _) | exact Or.inr (by first | (simp; done) | (simp; omega))) _)))) hk2; have zs := zky.size; have z0 := (HT5.out.on zky).bx.cell 1 _ rfl; have z1 := (HT5.out.on zky).bx.cell 2 _ rfl; have z2 := (HT5.out.on zky).bx.cell 3 _ rfl; (try (have yb := Bx.newD hk2; have y0 := yb.cell 0 _ rfl; have y1 := yb.cell 1 _ rfl; have y2 := yb.cell 2 _ rfl; have y3 := yb.cell 3 _ rfl; have y4 := yb.cell 4 _ rfl; have yf := yb.fz))))
   all_goals (go_wp2_with fail; go_meet; refine ⟨_, _, rfl, ?_, rfl, rfl, rfl, ?_, ?_⟩)
   all_goals first
    | exact Nat.le_refl _
    | exact zs
    | (with_reducible exact Bx.new (Keeps.refl NoB _))
    | (exact ((((yb.put 0 _).put 1 _).put 2 _).put 3 _).put 4 _)
    | ((repeat (first | with_reducible assumption | (with_reducible exact Keeps.refl _ _) | (with_reducible refine Keeps.drew ?_) | (with_reducible refine Keeps.drewN ?_ _) | (with_reducible refine Keeps.alloc ?_ _) | (with_reducible refine Keeps.setCell ?_ (by first | exact Or.inl rfl | exact Or.inr (Nat.le_refl _) | exact Or.inr (by first | (simp; done) | (simp; omega))) _))); done)
    | skip
  case rest =>
   obtain ⟨HIB, wy, rfl, hG, rfl, rfl, rfl, HI, hk⟩ := hcut
   replace HI := Lib.hid HI
   have HK := Lib.hid hk
   have HG := Lib.hid hG
   replace HT5 := Lib.hid (HT5.out.on hk)
   clear f0 b0 b1 fl HSt hG hk
   have f0 := HT5.out.bx.cell 1 _ rfl
   have fl := HT5.out.bx.lt
   have j1 := (HJ.out.on HK.out).cell 1 _ rfl
   have jl' := (HJ.out.on HK.out).lt
   go_wp2_with (first | (go_at_call 108; go_loud (refine (HRd.out _ HT5.out).mono ?_); rintro e w7 ⟨rfl, rfl⟩) | (go_at_call 80; go_loud (refine (HP.out _ HT5.out).mono ?_); rintro e w8 ⟨rfl, ht8, hk8⟩))
   refine leaves_cons (f := 9) (args := #[.pointer (some ⟨F, 0, none⟩), .int .i64 id]) (by simp) (by simp [go_sem]) ?_
   refine (HCl.out _ ht8).mono ?_
   rintro e u' w9 ⟨rfl, rfl, ht9, hk9⟩
   exact ⟨_, results_tmp rfl _ _ _, rfl, ht9, ((HK5.out.trans HK.out.of_none).trans hk8).trans (gd_low hk9)⟩
theorem copy_none {s b data : ByteArray} {m id id2 : Int} {d1 d2 : Nds} {calls1 : Int} (h : TW W Q w B F a d room calls fail (wkC name F at' mask iv out err st)) (hs : s.size <= 1000) (hsb : b.size <= 1000) (hc0 : 0 <= calls) (hc1 : calls <= 4611686018427387900) (hb : mass d + 3 <= 2147483648) (hb1 : mass d1 + 3 <= 2147483648)
 (hO : DInv d -> NoGarb d -> openF calls fail d room at' mask s 1 0 = (d1, id, 0))
 {jk jm jl jh jz : Int} (hI : infoAt d1 id = .agg #[.int .i64 jk, .int .i64 jm, .int .i64 jl, .int .i64 jh, .int .i64 jz]) {je : Int} (hIe : (if has d1 id then (0 : Int) else 12) = je) (hjm : bits BinOp.and IntKind.i64 jm 511 = m)
 {n ik im il ih iz : Int} (hn : (thrR d1 at' b true).1.node = n) (hV : statV d1 (thrR d1 at' b true) = .agg #[.int .i64 ik, .int .i64 im, .int .i64 il, .int .i64 ih, .int .i64 iz]) (hE : statE d1 (thrR d1 at' b true) = 12)
 (hR : readOf d1 id 0 4194304 = data)
 (hN : openN calls 14 = calls1) (hO2 : DInv d1 -> NoGarb d1 -> openF calls fail d1 room at' mask b 14 m = (d2, id2, 0)) (hd0 : data = ⟨#[]⟩) :
 Calls Tryz.prog 74 #[.pointer (some ⟨B, 0, none⟩), .string s, .string b] w fun e w' => e = .returned (.int .i64 0) ∧ TW W Q w' B F a (relD (relD d2 id2) id) room calls1 fail (wkC name F at' mask iv out err st) ∧ Keeps (Lw W Q) w w' := by
 have HT := Lib.hid h
 have HO : Hid (∀ w1 : World, TW W Q w1 B F a d room calls fail (wkC name F at' mask iv out err st) -> Calls Tryz.prog 7 #[.pointer (some ⟨F, 0, none⟩), .agg #[.int .i64 at', .int .i64 mask], .string s, .int .i64 1, .int .i64 0] w1 fun e w' => e = .returned (.tuple #[.int .i64 id, .int .i64 0]) ∧ TW W Q w' B F a d1 room calls fail (wkC name F at' mask iv out err st) ∧ Keeps (Gd W Q B) w1 w') := Lib.hid fun w1 k => by
  have := k.call (fun N hN => open_any hN hc0 (by omega) hb at' mask s 1 0 (by omega))
  rw [hO k.fx.inv k.fx.clean, show openN calls 1 = calls by unfold openN; rw [if_neg (by decide)]] at this
  exact this
 have HDk := Lib.hid (fun (w1 : World) (k : TW W Q w1 B F a d1 room calls fail (wkC name F at' mask iv out err st)) => k.fx.asks fun N hN => disk_any hN)
 have HIn : Hid (∀ w1 : World, TW W Q w1 B F a d1 room calls fail (wkC name F at' mask iv out err st) -> Calls Tryz.prog 37 #[.pointer (some ⟨a, 0, none⟩), .int .i64 id] w1 fun e w' => e = .returned (.tuple #[.agg #[.int .i64 jk, .int .i64 jm, .int .i64 jl, .int .i64 jh, .int .i64 jz], .int .i64 je]) ∧ Keeps NoB w1 w') := Lib.hid fun w1 k => k.fx.asks fun N hN => by
  have := hN.info id
  rw [hI, hIe] at this
  exact this
 have HRd := Lib.hid (fun (w1 : World) (k : TW W Q w1 B F a d1 room calls fail (wkC name F at' mask iv out err st)) => k.fx.asks fun N hN => fread_any hN id 0 4194304)
 rw [hR] at HRd
 obtain ⟨re, hre⟩ : ∃ re, readErr d1 id 0 4194304 = re := ⟨_, rfl⟩
 rw [hre] at HRd
 have HP := Lib.hid (fun (w1 : World) (k : TW W Q w1 B F a d1 room calls fail (wkC name F at' mask iv out err st)) => put_none k hsb hc0 hc1 hb1 hN hO2 hd0 )
 have HCl := Lib.hid (fun (w1 : World) (k : TW W Q w1 B F a (relD d2 id2) room calls1 fail (wkC name F at' mask iv out err st)) => close_d (u := .returning) k id)
 have HV := Lib.hid hV
 have HE := Lib.hid hE
 have HSz : Hid (b.size <= 4294967280) := by show _ <= _; omega
 clear h hO hI hIe hV hE hR hre hN hO2 hd0  hc0 hc1 hb hb1 hs hsb
 go_enter_defers Tryz.func74, Tryz.ntmps74
 have f0 := HT.out.bx.cell 1 _ rfl
 have b0 := HT.out.bx.cell 2 _ rfl
 have b1 := HT.out.bx.cell 3 _ rfl
 have fl := HT.out.bx.lt
 go_upto_region 1 with fail
 go_cut [7, 8] from 16 to 28 (fun x y wx => ∃ wn : World, wn = wx ∧ x = .int .i64 id ∧ y = .int .i64 0 ∧ TW W Q wx B F a d1 room calls fail (wkC name F at' mask iv out err st) ∧ Keeps (Lw W Q) w wx)
 case first =>
  have krd := (Keeps.refl NoB w).drew
  have d0 := (HT.out.on krd).bx.cell 1 _ rfl
  have d1 := (HT.out.on krd).bx.cell 2 _ rfl
  have d2 := (HT.out.on krd).bx.cell 3 _ rfl
  go_region_held3 (fun wz => wz.cell? ⟨B, 1, none⟩ = some (.pointer (some ⟨F, 0, none⟩)) ∧ wz.cell? ⟨B, 2, none⟩ = some (.int .i64 at') ∧ wz.cell? ⟨B, 3, none⟩ = some (.int .i64 mask)) (refine ⟨?_, ?_, ?_⟩ <;> first | with_reducible assumption)
   (first | (go_at_call 7; refine (HO.out _ (HT.out.on (by (repeat (first | with_reducible assumption | (with_reducible exact Keeps.refl _ _) | (with_reducible refine Keeps.drew ?_) | (with_reducible refine Keeps.drewN ?_ _) | (with_reducible refine Keeps.alloc ?_ _) | (with_reducible refine Keeps.setCell ?_ (by first | exact Or.inl rfl | exact Or.inr (Nat.le_refl _) | exact Or.inr (by first | (simp; done) | (simp; omega))) _)))))).mono ?_; rintro e w2 ⟨rfl, ht2, hk2⟩; have hl2 : Keeps (Lw W Q) w w2 := Keeps.trans (Keeps.of_none (by (repeat (first | with_reducible assumption | (with_reducible exact Keeps.refl _ _) | (with_reducible refine Keeps.drew ?_) | (with_reducible refine Keeps.drewN ?_ _) | (with_reducible refine Keeps.alloc ?_ _) | (with_reducible refine Keeps.setCell ?_ (by first | exact Or.inl rfl | exact Or.inr (Nat.le_refl _) | exact Or.inr (by first | (simp; done) | (simp; omega))) _))))) (gd_low hk2); have z0 := ht2.bx.cell 1 _ rfl; have z1 := ht2.bx.cell 2 _ rfl; have z2 := ht2.bx.cell 3 _ rfl))
  all_goals (go_wp2_with fail; go_meet; exact ⟨_, rfl, rfl, rfl, ht2, hl2⟩)
 case rest =>
  obtain ⟨wx, rfl, rfl, rfl, htwx, hkwx⟩ := hcut
  have HTwx := Lib.hid htwx
  have HKwx := Lib.hid hkwx
  clear f0 b0 b1 fl HO htwx hkwx
  have f0 := HTwx.out.bx.cell 1 _ rfl
  have fl := HTwx.out.bx.lt
  go_upto_region 6 with (first | (go_at_call 13; go_loud (refine (HDk.out _ HTwx.out).mono ?_); rintro e w3 ⟨rfl, rfl⟩) | (go_at_call 37; go_loud (refine (HIn.out _ HTwx.out).mono ?_); rintro e w4 ⟨rfl, hk4⟩))
  have hk5 : Keeps NoB wx (w4.alloc (.cells #[.int .i64 jk, .int .i64 jm, .int .i64 jl, .int .i64 jh, .int .i64 jz] 42)) := hk4.alloc _
  have HJ := Lib.hid (Bx.new (Keeps.refl NoB (w4.alloc (.cells #[.int .i64 jk, .int .i64 jm, .int .i64 jl, .int .i64 jh, .int .i64 jz] 42))))
  have HT5 := Lib.hid (HTwx.out.on hk5)
  have HK5 := Lib.hid (HKwx.out.trans hk5.of_none)
  clear f0 fl hk4 hk5 HTwx HKwx HDk HIn
  generalize w4.alloc (.cells #[.int .i64 jk, .int .i64 jm, .int .i64 jl, .int .i64 jh, .int .i64 jz] 42) = w5 at *
  generalize w4.heap.size = JB at *
  have HSt := Lib.hid (fun (w1 : World) (k : Keeps NoB w5 w1) => (HT5.out.fx.on k).asks fun N hN => stat_any hN at' mask b true HSz.out)
  rw [HV.out, HE.out, hn] at HSt
  clear hn
  have f0 := HT5.out.bx.cell 1 _ rfl
  have b0 := HT5.out.bx.cell 2 _ rfl
  have b1 := HT5.out.bx.cell 3 _ rfl
  have fl := HT5.out.bx.lt
  go_upto_region 6 with fail
  go_cut [11, 12, 13] from 47 to 60 (fun x y z wx => ∃ G : Nat, ∃ wn : World, wn = wx ∧ w5.heap.size <= G ∧ x = .int .i64 n ∧ y = .pointer (some ⟨G, 0, none⟩) ∧ z = .int .i64 12 ∧ Bx wx G [.int .i64 ik, .int .i64 im, .int .i64 il, .int .i64 ih, .int .i64 iz] ∧ Keeps NoB w5 wx)
  case first =>
   have kr := Keeps.refl NoB w5
   have krd := kr.drew
   have d0 := (HT5.out.on krd).bx.cell 1 _ rfl
   have d1 := (HT5.out.on krd).bx.cell 2 _ rfl
   have d2 := (HT5.out.on krd).bx.cell 3 _ rfl
   go_region_held3 (fun wz => wz.cell? ⟨B, 1, none⟩ = some (.pointer (some ⟨F, 0, none⟩)) ∧ wz.cell? ⟨B, 2, none⟩ = some (.int .i64 at') ∧ wz.cell? ⟨B, 3, none⟩ = some (.int .i64 mask) ∧ Keeps NoB w5 wz) (refine ⟨?_, ?_, ?_, ?_⟩ <;> first | with_reducible assumption | (with_reducible refine (HT5.out.on ?_).bx.cell 1 _ rfl; (repeat (first | with_reducible assumption | (with_reducible exact Keeps.refl _ _) | (with_reducible refine Keeps.drew ?_) | (with_reducible refine Keeps.drewN ?_ _) | (with_reducible refine Keeps.alloc ?_ _) | (with_reducible refine Keeps.setCell ?_ (by first | exact Or.inl rfl | exact Or.inr (Nat.le_refl _) | exact Or.inr (by first | (simp; done) | (simp; omega))) _))); done) | (with_reducible refine (HT5.out.on ?_).bx.cell 2 _ rfl; (repeat (first | with_reducible assumption | (with_reducible exact Keeps.refl _ _) | (with_reducible refine Keeps.drew ?_) | (with_reducible refine Keeps.drewN ?_ _) | (with_reducible refine Keeps.alloc ?_ _) | (with_reducible refine Keeps.setCell ?_ (by first | exact Or.inl rfl | exact Or.inr (Nat.le_refl _) | exact Or.inr (by first | (simp; done) | (simp; omega))) _))); done) | (with_reducible refine (HT5.out.on ?_).bx.cell 3 _ rfl; (repeat (first | with_reducible assumption | (with_reducible exact Keeps.refl _ _) | (with_reducible refine Keeps.drew ?_) | (with_reducible refine Keeps.drewN ?_ _) | (with_reducible refine Keeps.alloc ?_ _) | (with_reducible refine Keeps.setCell ?_ (by first | exact Or.inl rfl | exact Or.inr (Nat.le_refl _) | exact Or.inr (by first | (simp; done) | (simp; omega))) _))); done) | ((repeat (first | with_reducible assumption | (with_reducible exact Keeps.refl _ _) | (with_reducible refine Keeps.drew ?_) | (with_reducible refine Keeps.drewN ?_ _) | (with_reducible refine Keeps.alloc ?_ _) | (with_reducible refine Keeps.setCell ?_ (by first | exact Or.inl rfl | exact Or.inr (Nat.le_refl _) | exact Or.inr (by first | (simp; done) | (simp; omega))) _))); done))
    (first | (go_at_call 12; refine (HSt.out _ (by (repeat (first | with_reducible assumption | (with_reducible exact Keeps.refl _ _) | (with_reducible refine Keeps.drew ?_) | (with_reducible refine Keeps.drewN ?_ _) | (with_reducible refine Keeps.alloc ?_ _) | (with_reducible refine Keeps.setCell ?_ (by first | exact Or.inl rfl | exact Or.inr (Nat.le_refl _) | exact Or.inr (by first | (simp; done) | (simp; omega))) _))))).mono ?_; rintro e w2 ⟨rfl, hk2⟩; have zky : Keeps NoB w5 w2 := Keeps.trans (by (repeat (first | with_reducible assumption | (with_reducible exact Keeps.refl _ _) | (with_reducible refine Keeps.drew ?_) | (with_reducible refine Keeps.drewN ?_ _) | (with_reducible refine Keeps.alloc ?_ _) | (with_reducible refine Keeps.setCell ?_ (by first | exact Or.inl rfl | exact Or.inr (Nat.le_refl _) | exact Or.inr (by first | (simp; done) | (simp; omega))) _)))) hk2; have zs := zky.size; have z0 := (HT5.out.on zky).bx.cell 1 _ rfl; have z1 := (HT5.out.on zky).bx.cell 2 _ rfl; have z2 := (HT5.out.on zky).bx.cell 3 _ rfl; (try (have yb := Bx.newD hk2; have y0 := yb.cell 0 _ rfl; have y1 := yb.cell 1 _ rfl; have y2 := yb.cell 2 _ rfl; have y3 := yb.cell 3 _ rfl; have y4 := yb.cell 4 _ rfl; have yf := yb.fz))))
   all_goals (go_wp2_with fail; go_meet; refine ⟨_, _, rfl, ?_, rfl, rfl, rfl, ?_, ?_⟩)
   all_goals first
    | exact Nat.le_refl _
    | exact zs
    | (with_reducible exact Bx.new (Keeps.refl NoB _))
    | (exact ((((yb.put 0 _).put 1 _).put 2 _).put 3 _).put 4 _)
    | ((repeat (first | with_reducible assumption | (with_reducible exact Keeps.refl _ _) | (with_reducible refine Keeps.drew ?_) | (with_reducible refine Keeps.drewN ?_ _) | (with_reducible refine Keeps.alloc ?_ _) | (with_reducible refine Keeps.setCell ?_ (by first | exact Or.inl rfl | exact Or.inr (Nat.le_refl _) | exact Or.inr (by first | (simp; done) | (simp; omega))) _))); done)
    | skip
  case rest =>
   obtain ⟨HIB, wy, rfl, hG, rfl, rfl, rfl, HI, hk⟩ := hcut
   replace HI := Lib.hid HI
   have HK := Lib.hid hk
   have HG := Lib.hid hG
   replace HT5 := Lib.hid (HT5.out.on hk)
   clear f0 b0 b1 fl HSt hG hk
   have f0 := HT5.out.bx.cell 1 _ rfl
   have fl := HT5.out.bx.lt
   have j1 := (HJ.out.on HK.out).cell 1 _ rfl
   have jl' := (HJ.out.on HK.out).lt
   go_wp2_with (first | (go_at_call 108; go_loud (refine (HRd.out _ HT5.out).mono ?_); rintro e w7 ⟨rfl, rfl⟩) | (go_at_call 80; go_loud (refine (HP.out _ HT5.out).mono ?_); rintro e w8 ⟨rfl, ht8, hk8⟩))
   refine leaves_cons (f := 9) (args := #[.pointer (some ⟨F, 0, none⟩), .int .i64 id]) (by simp) (by simp [go_sem]) ?_
   refine (HCl.out _ ht8).mono ?_
   rintro e u' w9 ⟨rfl, rfl, ht9, hk9⟩
   exact ⟨_, results_tmp rfl _ _ _, rfl, ht9, ((HK5.out.trans HK.out.of_none).trans hk8).trans (gd_low hk9)⟩
end
section
variable {W w : World} {Q : Nat -> Prop} {B F a : Nat} {d d' : Nds} {room calls fail at' mask st : Int} {name out err : ByteArray} {iv : Value}
theorem one_h {s : ByteArray} (h : TW W Q w B F a d room calls fail (wkC name F at' mask iv out err st)) (hsz : s.size <= 4294967280) {n im il ih iz : Int} (hn : (thrR d at' s false).1.node = n)
 (hV : statV d (thrR d at' s false) = .agg #[.int .i64 3, .int .i64 im, .int .i64 il, .int .i64 ih, .int .i64 iz]) (hE : statE d (thrR d at' s false) = 0) :
 Calls Tryz.prog 62 #[.pointer (some ⟨B, 0, none⟩), .string ⟨#[45, 104]⟩, .string s] w fun e w' => e = .returned (.int .i64 0) ∧ Keeps NoB w w' := by
 have HT := Lib.hid h
 have HV := Lib.hid hV
 have HE := Lib.hid hE
 have HSz := Lib.hid hsz
 have HSt1 := Lib.hid (fun w1 : World => status_any true w1)
 rw [if_pos rfl] at HSt1
 clear h hV hE
 go_enter Tryz.func62, Tryz.ntmps62
 have HSt := Lib.hid (fun (w1 : World) (k : Keeps NoB w w1) => (HT.out.fx.on k).asks fun N hN => stat_any hN at' mask s false HSz.out)
 rw [HV.out, HE.out, hn] at HSt
 clear hn
 have f0 := HT.out.bx.cell 1 _ rfl
 have b0 := HT.out.bx.cell 2 _ rfl
 have b1 := HT.out.bx.cell 3 _ rfl
 have fl := HT.out.bx.lt
 go_upto_region 6 with fail
 go_cut [7, 8, 9] from 22 to 41 (fun x y z wx => ∃ G : Nat, w.heap.size <= G ∧ x = .int .i64 n ∧ y = .pointer (some ⟨G, 0, none⟩) ∧ z = .int .i64 0 ∧ Bx wx G [.int .i64 3, .int .i64 im, .int .i64 il, .int .i64 ih, .int .i64 iz] ∧ Keeps NoB w wx)
 case first =>
  have kr := Keeps.refl NoB w
  have krd := kr.drew
  have d0 := (HT.out.on krd).bx.cell 1 _ rfl
  have d1 := (HT.out.on krd).bx.cell 2 _ rfl
  have d2 := (HT.out.on krd).bx.cell 3 _ rfl
  refine wp_region_held_drew (S := (fun wz => wz.cell? ⟨B, 1, none⟩ = some (.pointer (some ⟨F, 0, none⟩)) ∧ wz.cell? ⟨B, 2, none⟩ = some (.int .i64 at') ∧ wz.cell? ⟨B, 3, none⟩ = some (.int .i64 mask) ∧ Keeps NoB w wz)) (by kernel_rfl) ?_ (fun hHeld => ?_)
  ·(refine ⟨?_, ?_, ?_, ?_⟩ <;> first | with_reducible assumption | (with_reducible refine (HT.out.on ?_).bx.cell 1 _ rfl; (repeat (first | with_reducible assumption | (with_reducible exact Keeps.refl _ _) | (with_reducible refine Keeps.drew ?_) | (with_reducible refine Keeps.drewN ?_ _) | (with_reducible refine Keeps.alloc ?_ _) | (with_reducible refine Keeps.setCell ?_ (by first | exact Or.inl rfl | exact Or.inr (Nat.le_refl _) | exact Or.inr (by first | (simp; done) | (simp; omega))) _))); done) | (with_reducible refine (HT.out.on ?_).bx.cell 2 _ rfl; (repeat (first | with_reducible assumption | (with_reducible exact Keeps.refl _ _) | (with_reducible refine Keeps.drew ?_) | (with_reducible refine Keeps.drewN ?_ _) | (with_reducible refine Keeps.alloc ?_ _) | (with_reducible refine Keeps.setCell ?_ (by first | exact Or.inl rfl | exact Or.inr (Nat.le_refl _) | exact Or.inr (by first | (simp; done) | (simp; omega))) _))); done) | (with_reducible refine (HT.out.on ?_).bx.cell 3 _ rfl; (repeat (first | with_reducible assumption | (with_reducible exact Keeps.refl _ _) | (with_reducible refine Keeps.drew ?_) | (with_reducible refine Keeps.drewN ?_ _) | (with_reducible refine Keeps.alloc ?_ _) | (with_reducible refine Keeps.setCell ?_ (by first | exact Or.inl rfl | exact Or.inr (Nat.le_refl _) | exact Or.inr (by first | (simp; done) | (simp; omega))) _))); done) | ((repeat (first | with_reducible assumption | (with_reducible exact Keeps.refl _ _) | (with_reducible refine Keeps.drew ?_) | (with_reducible refine Keeps.drewN ?_ _) | (with_reducible refine Keeps.alloc ?_ _) | (with_reducible refine Keeps.setCell ?_ (by first | exact Or.inl rfl | exact Or.inr (Nat.le_refl _) | exact Or.inr (by first | (simp; done) | (simp; omega))) _))); done))
  refine wpAnyH_take (i := 0) (v := ?_) (by simp only [List.getElem?_toArray, List.getElem?_cons_succ, List.getElem?_cons_zero]; rfl) (by kernel_rfl) (by kernel_rfl) (by kernel_rfl) (by intro _ _ _ h; exact h) (Or.inl ⟨by rfl, ?_⟩) (by assumption) ?_
  rotate_left
  ·((intro w hSw; (try dsimp only at hSw); go_simp); (try with_reducible rfl))
  try simp only [Act.put, List.setIfInBounds_toArray, List.set_cons_zero, List.set_cons_succ]
  refine wpAnyH_take (i := 1) (v := ?_) (by simp only [List.getElem?_toArray, List.getElem?_cons_succ, List.getElem?_cons_zero]; rfl) (by kernel_rfl) (by kernel_rfl) (by kernel_rfl) (by intro _ _ _ h; exact h) (Or.inl ⟨by rfl, ?_⟩) (by assumption) ?_
  rotate_left
  ·((intro w hSw; (try dsimp only at hSw); go_simp); (try with_reducible rfl))
  try simp only [Act.put, List.setIfInBounds_toArray, List.set_cons_zero, List.set_cons_succ]
  refine wpAnyH_take (i := 2) (v := ?_) (by simp only [List.getElem?_toArray, List.getElem?_cons_succ, List.getElem?_cons_zero]; rfl) (by kernel_rfl) (by kernel_rfl) (by kernel_rfl) (by intro _ _ _ h; exact h) (Or.inl ⟨by rfl, ?_⟩) (by assumption) ?_
  rotate_left
  ·((intro w hSw; (try dsimp only at hSw); go_simp); (try with_reducible rfl))
  try simp only [Act.put, List.setIfInBounds_toArray, List.set_cons_zero, List.set_cons_succ]
  refine wpAnyH_take (i := 3) (v := ?_) (by simp only [List.getElem?_toArray, List.getElem?_cons_succ, List.getElem?_cons_zero]; rfl) (by kernel_rfl) (by kernel_rfl) (by kernel_rfl) (by intro _ _ _ h; exact h) (Or.inl ⟨by rfl, ?_⟩) (by assumption) ?_
  rotate_left
  ·((intro w hSw; (try dsimp only at hSw); go_simp); (try with_reducible rfl))
  try simp only [Act.put, List.setIfInBounds_toArray, List.set_cons_zero, List.set_cons_succ]
  refine wpAnyH_take (i := 4) (v := ?_) (by simp only [List.getElem?_toArray, List.getElem?_cons_succ, List.getElem?_cons_zero]; rfl) (by kernel_rfl) (by kernel_rfl) (by kernel_rfl) (by intro _ _ _ h; exact h) (Or.inl ⟨by rfl, ?_⟩) (by assumption) ?_
  rotate_left
  ·((intro w hSw; (try dsimp only at hSw); go_simp); (try with_reducible rfl))
  try simp only [Act.put, List.setIfInBounds_toArray, List.set_cons_zero, List.set_cons_succ]
  refine wpAnyH_take (i := 5) (v := ?_) (by simp only [List.getElem?_toArray, List.getElem?_cons_succ, List.getElem?_cons_zero]; rfl) (by kernel_rfl) (by kernel_rfl) (by kernel_rfl) (by intro _ _ _ h; exact h) (Or.inl ⟨by rfl, ?_⟩) (by assumption) ?_
  rotate_left
  ·((intro w hSw; (try dsimp only at hSw); go_simp); (try with_reducible rfl))
  try simp only [Act.put, List.setIfInBounds_toArray, List.set_cons_zero, List.set_cons_succ]
  refine wpAnyH_take (i := 6) (v := ?_) (by simp only [List.getElem?_toArray, List.getElem?_cons_succ, List.getElem?_cons_zero]; rfl) (by kernel_rfl) (by kernel_rfl) (by kernel_rfl) (by intro _ _ _ h; exact h) (Or.inl ⟨by rfl, ?_⟩) (by assumption) ?_
  rotate_left
  ·((intro w hSw; (try dsimp only at hSw); go_simp); (try with_reducible rfl))
  try simp only [Act.put, List.setIfInBounds_toArray, List.set_cons_zero, List.set_cons_succ]
  refine wpAnyH_take (i := 7) (v := ?_) (by simp only [List.getElem?_toArray, List.getElem?_cons_succ, List.getElem?_cons_zero]; rfl) (by kernel_rfl) (by kernel_rfl) (by kernel_rfl) (by intro _ _ _ h; exact h) (Or.inl ⟨by rfl, ?_⟩) (by assumption) ?_
  rotate_left
  ·((intro w hSw; (try dsimp only at hSw); go_simp); (try with_reducible rfl))
  try simp only [Act.put, List.setIfInBounds_toArray, List.set_cons_zero, List.set_cons_succ]
  refine wpAnyH_take (i := 8) (v := ?_) (by simp only [List.getElem?_toArray, List.getElem?_cons_succ, List.getElem?_cons_zero]; rfl) (by kernel_rfl) (by kernel_rfl) (by kernel_rfl) (by intro _ _ _ h; exact h) (Or.inl ⟨by rfl, ?_⟩) (by assumption) ?_
  rotate_left
  ·((intro w hSw; (try dsimp only at hSw); go_simp); (try with_reducible rfl))
  try simp only [Act.put, List.setIfInBounds_toArray, List.set_cons_zero, List.set_cons_succ]
  refine wpAnyH_take (i := 9) (v := ?_) (by simp only [List.getElem?_toArray, List.getElem?_cons_succ, List.getElem?_cons_zero]; rfl) (by kernel_rfl) (by kernel_rfl) (by kernel_rfl) (by intro _ _ _ h; exact h) (Or.inl ⟨by rfl, ?_⟩) (by assumption) ?_
  rotate_left
  ·((intro w hSw; (try dsimp only at hSw); go_simp); (try with_reducible rfl))
  try simp only [Act.put, List.setIfInBounds_toArray, List.set_cons_zero, List.set_cons_succ]
  refine wpAnyH_take (i := 10) (v := ?_) (by simp only [List.getElem?_toArray, List.getElem?_cons_succ, List.getElem?_cons_zero]; rfl) (by kernel_rfl) (by kernel_rfl) (by kernel_rfl) (by intro _ _ _ h; exact h) (Or.inl ⟨by rfl, ?_⟩) (by assumption) ?_
  rotate_left
  ·((intro w hSw; (try dsimp only at hSw); go_simp); (try with_reducible rfl))
  try simp only [Act.put, List.setIfInBounds_toArray, List.set_cons_zero, List.set_cons_succ]
  refine wpAnyH_take (i := 11) (v := ?_) (by simp only [List.getElem?_toArray, List.getElem?_cons_succ, List.getElem?_cons_zero]; rfl) (by kernel_rfl) (by kernel_rfl) (by kernel_rfl) (by intro _ _ _ h; exact h) (Or.inl ⟨by rfl, ?_⟩) (by assumption) ?_
  rotate_left
  ·((intro w hSw; (try dsimp only at hSw); go_simp); (try with_reducible rfl))
  try simp only [Act.put, List.setIfInBounds_toArray, List.set_cons_zero, List.set_cons_succ]
  refine wpAnyH_take (i := 12) (v := undef) (by simp only [List.getElem?_toArray, List.getElem?_cons_succ, List.getElem?_cons_zero]; rfl) (by kernel_rfl) (by kernel_rfl) (by kernel_rfl) (by intro _ _ _ h; exact h) (Or.inr ⟨by rfl, rfl⟩) (by assumption) ?_
  try simp only [Act.put, List.setIfInBounds_toArray, List.set_cons_zero, List.set_cons_succ]
  refine wpAnyH_take (i := 13) (v := undef) (by simp only [List.getElem?_toArray, List.getElem?_cons_succ, List.getElem?_cons_zero]; rfl) (by kernel_rfl) (by kernel_rfl) (by kernel_rfl) (by intro _ _ _ h; exact h) (Or.inr ⟨by rfl, rfl⟩) (by assumption) ?_
  try simp only [Act.put, List.setIfInBounds_toArray, List.set_cons_zero, List.set_cons_succ]
  refine wpAnyH_take (i := 14) (v := ?_) (by simp only [List.getElem?_toArray, List.getElem?_cons_succ, List.getElem?_cons_zero]; rfl) (by kernel_rfl) (by kernel_rfl) (by kernel_rfl) (by intro _ _ _ h; exact h) (Or.inl ⟨by rfl, ?_⟩) (by assumption) ?_
  rotate_left
  ·((intro w hSw; (try dsimp only at hSw); go_simp); (try with_reducible rfl))
  try simp only [Act.put, List.setIfInBounds_toArray, List.set_cons_zero, List.set_cons_succ]
  refine wpAnyH_ready (rs := [15, 20]) (by kernel_rfl) (by simp) (AllReadyH.cons rfl (fun K hK => ?_) (AllReadyH.cons rfl (fun K hK => ?_) AllReadyH.nil))
  ·skip
   have HKK := Lib.hid hK
   clear hK
   go_simp
   go_wp2_with (first | (go_at_call 12; refine (HSt.out _ (by (repeat (first | with_reducible assumption | (with_reducible exact Keeps.refl _ _) | (with_reducible refine Keeps.drew ?_) | (with_reducible refine Keeps.drewN ?_ _) | (with_reducible refine Keeps.alloc ?_ _) | (with_reducible refine Keeps.setCell ?_ (by first | exact Or.inl rfl | exact Or.inr (Nat.le_refl _) | exact Or.inr (by first | (simp; done) | (simp; omega))) _))))).mono ?_; rintro e w2 ⟨rfl, hk2⟩; have zky : Keeps NoB w w2 := Keeps.trans (by (repeat (first | with_reducible assumption | (with_reducible exact Keeps.refl _ _) | (with_reducible refine Keeps.drew ?_) | (with_reducible refine Keeps.drewN ?_ _) | (with_reducible refine Keeps.alloc ?_ _) | (with_reducible refine Keeps.setCell ?_ (by first | exact Or.inl rfl | exact Or.inr (Nat.le_refl _) | exact Or.inr (by first | (simp; done) | (simp; omega))) _)))) hk2; have zs := zky.size; have z0 := (HT.out.on zky).bx.cell 1 _ rfl; have z1 := (HT.out.on zky).bx.cell 2 _ rfl; have z2 := (HT.out.on zky).bx.cell 3 _ rfl; (try (have yb := Bx.newD hk2; have y0 := yb.cell 0 _ rfl; have y1 := yb.cell 1 _ rfl; have y2 := yb.cell 2 _ rfl; have y3 := yb.cell 3 _ rfl; have y4 := yb.cell 4 _ rfl; have yf := yb.fz))))
   refine HKK.out.out _ _ ?_ (fun hHeld => ?_)
   ·(refine ⟨?_, ?_, ?_, ?_⟩ <;> first | with_reducible assumption | (with_reducible refine (HT.out.on ?_).bx.cell 1 _ rfl; (repeat (first | with_reducible assumption | (with_reducible exact Keeps.refl _ _) | (with_reducible refine Keeps.drew ?_) | (with_reducible refine Keeps.drewN ?_ _) | (with_reducible refine Keeps.alloc ?_ _) | (with_reducible refine Keeps.setCell ?_ (by first | exact Or.inl rfl | exact Or.inr (Nat.le_refl _) | exact Or.inr (by first | (simp; done) | (simp; omega))) _))); done) | (with_reducible refine (HT.out.on ?_).bx.cell 2 _ rfl; (repeat (first | with_reducible assumption | (with_reducible exact Keeps.refl _ _) | (with_reducible refine Keeps.drew ?_) | (with_reducible refine Keeps.drewN ?_ _) | (with_reducible refine Keeps.alloc ?_ _) | (with_reducible refine Keeps.setCell ?_ (by first | exact Or.inl rfl | exact Or.inr (Nat.le_refl _) | exact Or.inr (by first | (simp; done) | (simp; omega))) _))); done) | (with_reducible refine (HT.out.on ?_).bx.cell 3 _ rfl; (repeat (first | with_reducible assumption | (with_reducible exact Keeps.refl _ _) | (with_reducible refine Keeps.drew ?_) | (with_reducible refine Keeps.drewN ?_ _) | (with_reducible refine Keeps.alloc ?_ _) | (with_reducible refine Keeps.setCell ?_ (by first | exact Or.inl rfl | exact Or.inr (Nat.le_refl _) | exact Or.inr (by first | (simp; done) | (simp; omega))) _))); done) | ((repeat (first | with_reducible assumption | (with_reducible exact Keeps.refl _ _) | (with_reducible refine Keeps.drew ?_) | (with_reducible refine Keeps.drewN ?_ _) | (with_reducible refine Keeps.alloc ?_ _) | (with_reducible refine Keeps.setCell ?_ (by first | exact Or.inl rfl | exact Or.inr (Nat.le_refl _) | exact Or.inr (by first | (simp; done) | (simp; omega))) _))); done))
   clear HKK
   clear K
   try simp only [Act.put, List.setIfInBounds_toArray, List.set_cons_zero, List.set_cons_succ]
   refine wpAnyH_take (i := 16) (v := ?_) (by simp only [List.getElem?_toArray, List.getElem?_cons_succ, List.getElem?_cons_zero]; rfl) (by kernel_rfl) (by kernel_rfl) (by kernel_rfl) (by intro _ _ _ h; exact h) (Or.inl ⟨by rfl, ?_⟩) (by assumption) ?_
   rotate_left
   ·((intro w hSw; (try dsimp only at hSw); go_simp); (try with_reducible rfl))
   try simp only [Act.put, List.setIfInBounds_toArray, List.set_cons_zero, List.set_cons_succ]
   refine wpAnyH_take (i := 17) (v := ?_) (by simp only [List.getElem?_toArray, List.getElem?_cons_succ, List.getElem?_cons_zero]; rfl) (by kernel_rfl) (by kernel_rfl) (by kernel_rfl) (by intro _ _ _ h; exact h) (Or.inl ⟨by rfl, ?_⟩) (by assumption) ?_
   rotate_left
   ·((intro w hSw; (try dsimp only at hSw); go_simp); (try with_reducible rfl))
   try simp only [Act.put, List.setIfInBounds_toArray, List.set_cons_zero, List.set_cons_succ]
   refine wpAnyH_take (i := 18) (v := ?_) (by simp only [List.getElem?_toArray, List.getElem?_cons_succ, List.getElem?_cons_zero]; rfl) (by kernel_rfl) (by kernel_rfl) (by kernel_rfl) (by intro _ _ _ h; exact h) (Or.inl ⟨by rfl, ?_⟩) (by assumption) ?_
   rotate_left
   ·((intro w hSw; (try dsimp only at hSw); go_simp); (try with_reducible rfl))
   try simp only [Act.put, List.setIfInBounds_toArray, List.set_cons_zero, List.set_cons_succ]
   refine wpAnyH_take (i := 19) (v := ?_) (by simp only [List.getElem?_toArray, List.getElem?_cons_succ, List.getElem?_cons_zero]; rfl) (by kernel_rfl) (by kernel_rfl) (by kernel_rfl) (by intro _ _ _ h; exact h) (Or.inl ⟨by rfl, ?_⟩) (by assumption) ?_
   rotate_left
   ·((intro w hSw; (try dsimp only at hSw); go_simp); (try with_reducible rfl))
   try simp only [Act.put, List.setIfInBounds_toArray, List.set_cons_zero, List.set_cons_succ]
   refine wpAnyH_ready (rs := [20]) (by kernel_rfl) (by simp) (AllReadyH.cons rfl (fun K hK => ?_) AllReadyH.nil)
   have HKK := Lib.hid hK
   clear hK
   go_simp
   refine HKK.out.out _ _ ?_ (fun hHeld => ?_)
   ·(refine ⟨?_, ?_, ?_, ?_⟩ <;> first | with_reducible assumption | (with_reducible refine (HT.out.on ?_).bx.cell 1 _ rfl; (repeat (first | with_reducible assumption | (with_reducible exact Keeps.refl _ _) | (with_reducible refine Keeps.drew ?_) | (with_reducible refine Keeps.drewN ?_ _) | (with_reducible refine Keeps.alloc ?_ _) | (with_reducible refine Keeps.setCell ?_ (by first | exact Or.inl rfl | exact Or.inr (Nat.le_refl _) | exact Or.inr (by first | (simp; done) | (simp; omega))) _))); done) | (with_reducible refine (HT.out.on ?_).bx.cell 2 _ rfl; (repeat (first | with_reducible assumption | (with_reducible exact Keeps.refl _ _) | (with_reducible refine Keeps.drew ?_) | (with_reducible refine Keeps.drewN ?_ _) | (with_reducible refine Keeps.alloc ?_ _) | (with_reducible refine Keeps.setCell ?_ (by first | exact Or.inl rfl | exact Or.inr (Nat.le_refl _) | exact Or.inr (by first | (simp; done) | (simp; omega))) _))); done) | (with_reducible refine (HT.out.on ?_).bx.cell 3 _ rfl; (repeat (first | with_reducible assumption | (with_reducible exact Keeps.refl _ _) | (with_reducible refine Keeps.drew ?_) | (with_reducible refine Keeps.drewN ?_ _) | (with_reducible refine Keeps.alloc ?_ _) | (with_reducible refine Keeps.setCell ?_ (by first | exact Or.inl rfl | exact Or.inr (Nat.le_refl _) | exact Or.inr (by first | (simp; done) | (simp; omega))) _))); done) | ((repeat (first | with_reducible assumption | (with_reducible exact Keeps.refl _ _) | (with_reducible refine Keeps.drew ?_) | (with_reducible refine Keeps.drewN ?_ _) | (with_reducible refine Keeps.alloc ?_ _) | (with_reducible refine Keeps.setCell ?_ (by first | exact Or.inl rfl | exact Or.inr (Nat.le_refl _) | exact Or.inr (by first | (simp; done) | (simp; omega))) _))); done))
   clear HKK
   clear K
   try simp only [Act.put, List.setIfInBounds_toArray, List.set_cons_zero, List.set_cons_succ]
   refine wpAnyH_take (i := 21) (v := ?_) (by simp only [List.getElem?_toArray, List.getElem?_cons_succ, List.getElem?_cons_zero]; rfl) (by kernel_rfl) (by kernel_rfl) (by kernel_rfl) (by intro _ _ _ h; exact h) (Or.inl ⟨by rfl, ?_⟩) (by assumption) ?_
   rotate_left
   ·((intro w hSw; (try dsimp only at hSw); go_simp); (try with_reducible rfl))
   try simp only [Act.put, List.setIfInBounds_toArray, List.set_cons_zero, List.set_cons_succ]
   refine wpAnyH_ready (rs := [22]) (by kernel_rfl) (by simp) (AllReadyH.cons rfl (fun K hK => ?_) AllReadyH.nil)
   have HKK := Lib.hid hK
   clear hK
   go_simp
   refine HKK.out.out _ _ ?_ (fun hHeld => ?_)
   ·(refine ⟨?_, ?_, ?_, ?_⟩ <;> first | with_reducible assumption | (with_reducible refine (HT.out.on ?_).bx.cell 1 _ rfl; (repeat (first | with_reducible assumption | (with_reducible exact Keeps.refl _ _) | (with_reducible refine Keeps.drew ?_) | (with_reducible refine Keeps.drewN ?_ _) | (with_reducible refine Keeps.alloc ?_ _) | (with_reducible refine Keeps.setCell ?_ (by first | exact Or.inl rfl | exact Or.inr (Nat.le_refl _) | exact Or.inr (by first | (simp; done) | (simp; omega))) _))); done) | (with_reducible refine (HT.out.on ?_).bx.cell 2 _ rfl; (repeat (first | with_reducible assumption | (with_reducible exact Keeps.refl _ _) | (with_reducible refine Keeps.drew ?_) | (with_reducible refine Keeps.drewN ?_ _) | (with_reducible refine Keeps.alloc ?_ _) | (with_reducible refine Keeps.setCell ?_ (by first | exact Or.inl rfl | exact Or.inr (Nat.le_refl _) | exact Or.inr (by first | (simp; done) | (simp; omega))) _))); done) | (with_reducible refine (HT.out.on ?_).bx.cell 3 _ rfl; (repeat (first | with_reducible assumption | (with_reducible exact Keeps.refl _ _) | (with_reducible refine Keeps.drew ?_) | (with_reducible refine Keeps.drewN ?_ _) | (with_reducible refine Keeps.alloc ?_ _) | (with_reducible refine Keeps.setCell ?_ (by first | exact Or.inl rfl | exact Or.inr (Nat.le_refl _) | exact Or.inr (by first | (simp; done) | (simp; omega))) _))); done) | ((repeat (first | with_reducible assumption | (with_reducible exact Keeps.refl _ _) | (with_reducible refine Keeps.drew ?_) | (with_reducible refine Keeps.drewN ?_ _) | (with_reducible refine Keeps.alloc ?_ _) | (with_reducible refine Keeps.setCell ?_ (by first | exact Or.inl rfl | exact Or.inr (Nat.le_refl _) | exact Or.inr (by first | (simp; done) | (simp; omega))) _))); done))
   clear HKK
   clear K
   try simp only [Act.put, List.setIfInBounds_toArray, List.set_cons_zero, List.set_cons_succ]
   refine wpAnyH_take (i := 23) (v := ?_) (by simp only [List.getElem?_toArray, List.getElem?_cons_succ, List.getElem?_cons_zero]; rfl) (by kernel_rfl) (by kernel_rfl) (by kernel_rfl) (by intro _ _ _ h; exact h) (Or.inl ⟨by rfl, ?_⟩) (by assumption) ?_
   rotate_left
   ·((intro w hSw; (try dsimp only at hSw); go_simp); (try with_reducible rfl))
   try simp only [Act.put, List.setIfInBounds_toArray, List.set_cons_zero, List.set_cons_succ]
   refine wpAnyH_done (by kernel_rfl) ?_ _
   all_goals (go_wp2_with fail; go_meet; refine ⟨_, ?_, rfl, rfl, rfl, ?_, ?_⟩)
   all_goals first
    | exact Nat.le_refl _
    | exact zs
    | (with_reducible exact Bx.new (Keeps.refl NoB _))
    | (exact ((((yb.put 0 _).put 1 _).put 2 _).put 3 _).put 4 _)
    | ((repeat (first | with_reducible assumption | (with_reducible exact Keeps.refl _ _) | (with_reducible refine Keeps.drew ?_) | (with_reducible refine Keeps.drewN ?_ _) | (with_reducible refine Keeps.alloc ?_ _) | (with_reducible refine Keeps.setCell ?_ (by first | exact Or.inl rfl | exact Or.inr (Nat.le_refl _) | exact Or.inr (by first | (simp; done) | (simp; omega))) _))); done)
    | skip
  ·skip
   have HKK := Lib.hid hK
   clear hK
   go_simp
   refine HKK.out.out _ _ ?_ (fun hHeld => ?_)
   ·(refine ⟨?_, ?_, ?_, ?_⟩ <;> first | with_reducible assumption | (with_reducible refine (HT.out.on ?_).bx.cell 1 _ rfl; (repeat (first | with_reducible assumption | (with_reducible exact Keeps.refl _ _) | (with_reducible refine Keeps.drew ?_) | (with_reducible refine Keeps.drewN ?_ _) | (with_reducible refine Keeps.alloc ?_ _) | (with_reducible refine Keeps.setCell ?_ (by first | exact Or.inl rfl | exact Or.inr (Nat.le_refl _) | exact Or.inr (by first | (simp; done) | (simp; omega))) _))); done) | (with_reducible refine (HT.out.on ?_).bx.cell 2 _ rfl; (repeat (first | with_reducible assumption | (with_reducible exact Keeps.refl _ _) | (with_reducible refine Keeps.drew ?_) | (with_reducible refine Keeps.drewN ?_ _) | (with_reducible refine Keeps.alloc ?_ _) | (with_reducible refine Keeps.setCell ?_ (by first | exact Or.inl rfl | exact Or.inr (Nat.le_refl _) | exact Or.inr (by first | (simp; done) | (simp; omega))) _))); done) | (with_reducible refine (HT.out.on ?_).bx.cell 3 _ rfl; (repeat (first | with_reducible assumption | (with_reducible exact Keeps.refl _ _) | (with_reducible refine Keeps.drew ?_) | (with_reducible refine Keeps.drewN ?_ _) | (with_reducible refine Keeps.alloc ?_ _) | (with_reducible refine Keeps.setCell ?_ (by first | exact Or.inl rfl | exact Or.inr (Nat.le_refl _) | exact Or.inr (by first | (simp; done) | (simp; omega))) _))); done) | ((repeat (first | with_reducible assumption | (with_reducible exact Keeps.refl _ _) | (with_reducible refine Keeps.drew ?_) | (with_reducible refine Keeps.drewN ?_ _) | (with_reducible refine Keeps.alloc ?_ _) | (with_reducible refine Keeps.setCell ?_ (by first | exact Or.inl rfl | exact Or.inr (Nat.le_refl _) | exact Or.inr (by first | (simp; done) | (simp; omega))) _))); done))
   clear HKK
   clear K
   try simp only [Act.put, List.setIfInBounds_toArray, List.set_cons_zero, List.set_cons_succ]
   refine wpAnyH_ready (rs := [15]) (by kernel_rfl) (by simp) (AllReadyH.cons rfl (fun K hK => ?_) AllReadyH.nil)
   have HKK := Lib.hid hK
   clear hK
   go_simp
   go_wp2_with (first | (go_at_call 12; refine (HSt.out _ (by (repeat (first | with_reducible assumption | (with_reducible exact Keeps.refl _ _) | (with_reducible refine Keeps.drew ?_) | (with_reducible refine Keeps.drewN ?_ _) | (with_reducible refine Keeps.alloc ?_ _) | (with_reducible refine Keeps.setCell ?_ (by first | exact Or.inl rfl | exact Or.inr (Nat.le_refl _) | exact Or.inr (by first | (simp; done) | (simp; omega))) _))))).mono ?_; rintro e w2 ⟨rfl, hk2⟩; have zky : Keeps NoB w w2 := Keeps.trans (by (repeat (first | with_reducible assumption | (with_reducible exact Keeps.refl _ _) | (with_reducible refine Keeps.drew ?_) | (with_reducible refine Keeps.drewN ?_ _) | (with_reducible refine Keeps.alloc ?_ _) | (with_reducible refine Keeps.setCell ?_ (by first | exact Or.inl rfl | exact Or.inr (Nat.le_refl _) | exact Or.inr (by first | (simp; done) | (simp; omega))) _)))) hk2; have zs := zky.size; have z0 := (HT.out.on zky).bx.cell 1 _ rfl; have z1 := (HT.out.on zky).bx.cell 2 _ rfl; have z2 := (HT.out.on zky).bx.cell 3 _ rfl; (try (have yb := Bx.newD hk2; have y0 := yb.cell 0 _ rfl; have y1 := yb.cell 1 _ rfl; have y2 := yb.cell 2 _ rfl; have y3 := yb.cell 3 _ rfl; have y4 := yb.cell 4 _ rfl; have yf := yb.fz))))
   refine HKK.out.out _ _ ?_ (fun hHeld => ?_)
   ·(refine ⟨?_, ?_, ?_, ?_⟩ <;> first | with_reducible assumption | (with_reducible refine (HT.out.on ?_).bx.cell 1 _ rfl; (repeat (first | with_reducible assumption | (with_reducible exact Keeps.refl _ _) | (with_reducible refine Keeps.drew ?_) | (with_reducible refine Keeps.drewN ?_ _) | (with_reducible refine Keeps.alloc ?_ _) | (with_reducible refine Keeps.setCell ?_ (by first | exact Or.inl rfl | exact Or.inr (Nat.le_refl _) | exact Or.inr (by first | (simp; done) | (simp; omega))) _))); done) | (with_reducible refine (HT.out.on ?_).bx.cell 2 _ rfl; (repeat (first | with_reducible assumption | (with_reducible exact Keeps.refl _ _) | (with_reducible refine Keeps.drew ?_) | (with_reducible refine Keeps.drewN ?_ _) | (with_reducible refine Keeps.alloc ?_ _) | (with_reducible refine Keeps.setCell ?_ (by first | exact Or.inl rfl | exact Or.inr (Nat.le_refl _) | exact Or.inr (by first | (simp; done) | (simp; omega))) _))); done) | (with_reducible refine (HT.out.on ?_).bx.cell 3 _ rfl; (repeat (first | with_reducible assumption | (with_reducible exact Keeps.refl _ _) | (with_reducible refine Keeps.drew ?_) | (with_reducible refine Keeps.drewN ?_ _) | (with_reducible refine Keeps.alloc ?_ _) | (with_reducible refine Keeps.setCell ?_ (by first | exact Or.inl rfl | exact Or.inr (Nat.le_refl _) | exact Or.inr (by first | (simp; done) | (simp; omega))) _))); done) | ((repeat (first | with_reducible assumption | (with_reducible exact Keeps.refl _ _) | (with_reducible refine Keeps.drew ?_) | (with_reducible refine Keeps.drewN ?_ _) | (with_reducible refine Keeps.alloc ?_ _) | (with_reducible refine Keeps.setCell ?_ (by first | exact Or.inl rfl | exact Or.inr (Nat.le_refl _) | exact Or.inr (by first | (simp; done) | (simp; omega))) _))); done))
   clear HKK
   clear K
   try simp only [Act.put, List.setIfInBounds_toArray, List.set_cons_zero, List.set_cons_succ]
   refine wpAnyH_take (i := 16) (v := ?_) (by simp only [List.getElem?_toArray, List.getElem?_cons_succ, List.getElem?_cons_zero]; rfl) (by kernel_rfl) (by kernel_rfl) (by kernel_rfl) (by intro _ _ _ h; exact h) (Or.inl ⟨by rfl, ?_⟩) (by assumption) ?_
   rotate_left
   ·((intro w hSw; (try dsimp only at hSw); go_simp); (try with_reducible rfl))
   try simp only [Act.put, List.setIfInBounds_toArray, List.set_cons_zero, List.set_cons_succ]
   refine wpAnyH_take (i := 17) (v := ?_) (by simp only [List.getElem?_toArray, List.getElem?_cons_succ, List.getElem?_cons_zero]; rfl) (by kernel_rfl) (by kernel_rfl) (by kernel_rfl) (by intro _ _ _ h; exact h) (Or.inl ⟨by rfl, ?_⟩) (by assumption) ?_
   rotate_left
   ·((intro w hSw; (try dsimp only at hSw); go_simp); (try with_reducible rfl))
   try simp only [Act.put, List.setIfInBounds_toArray, List.set_cons_zero, List.set_cons_succ]
   refine wpAnyH_take (i := 18) (v := ?_) (by simp only [List.getElem?_toArray, List.getElem?_cons_succ, List.getElem?_cons_zero]; rfl) (by kernel_rfl) (by kernel_rfl) (by kernel_rfl) (by intro _ _ _ h; exact h) (Or.inl ⟨by rfl, ?_⟩) (by assumption) ?_
   rotate_left
   ·((intro w hSw; (try dsimp only at hSw); go_simp); (try with_reducible rfl))
   try simp only [Act.put, List.setIfInBounds_toArray, List.set_cons_zero, List.set_cons_succ]
   refine wpAnyH_take (i := 19) (v := ?_) (by simp only [List.getElem?_toArray, List.getElem?_cons_succ, List.getElem?_cons_zero]; rfl) (by kernel_rfl) (by kernel_rfl) (by kernel_rfl) (by intro _ _ _ h; exact h) (Or.inl ⟨by rfl, ?_⟩) (by assumption) ?_
   rotate_left
   ·((intro w hSw; (try dsimp only at hSw); go_simp); (try with_reducible rfl))
   try simp only [Act.put, List.setIfInBounds_toArray, List.set_cons_zero, List.set_cons_succ]
   refine wpAnyH_take (i := 21) (v := ?_) (by simp only [List.getElem?_toArray, List.getElem?_cons_succ, List.getElem?_cons_zero]; rfl) (by kernel_rfl) (by kernel_rfl) (by kernel_rfl) (by intro _ _ _ h; exact h) (Or.inl ⟨by rfl, ?_⟩) (by assumption) ?_
   rotate_left
   ·((intro w hSw; (try dsimp only at hSw); go_simp); (try with_reducible rfl))
   try simp only [Act.put, List.setIfInBounds_toArray, List.set_cons_zero, List.set_cons_succ]
   refine wpAnyH_ready (rs := [22]) (by kernel_rfl) (by simp) (AllReadyH.cons rfl (fun K hK => ?_) AllReadyH.nil)
   have HKK := Lib.hid hK
   clear hK
   go_simp
   refine HKK.out.out _ _ ?_ (fun hHeld => ?_)
   ·(refine ⟨?_, ?_, ?_, ?_⟩ <;> first | with_reducible assumption | (with_reducible refine (HT.out.on ?_).bx.cell 1 _ rfl; (repeat (first | with_reducible assumption | (with_reducible exact Keeps.refl _ _) | (with_reducible refine Keeps.drew ?_) | (with_reducible refine Keeps.drewN ?_ _) | (with_reducible refine Keeps.alloc ?_ _) | (with_reducible refine Keeps.setCell ?_ (by first | exact Or.inl rfl | exact Or.inr (Nat.le_refl _) | exact Or.inr (by first | (simp; done) | (simp; omega))) _))); done) | (with_reducible refine (HT.out.on ?_).bx.cell 2 _ rfl; (repeat (first | with_reducible assumption | (with_reducible exact Keeps.refl _ _) | (with_reducible refine Keeps.drew ?_) | (with_reducible refine Keeps.drewN ?_ _) | (with_reducible refine Keeps.alloc ?_ _) | (with_reducible refine Keeps.setCell ?_ (by first | exact Or.inl rfl | exact Or.inr (Nat.le_refl _) | exact Or.inr (by first | (simp; done) | (simp; omega))) _))); done) | (with_reducible refine (HT.out.on ?_).bx.cell 3 _ rfl; (repeat (first | with_reducible assumption | (with_reducible exact Keeps.refl _ _) | (with_reducible refine Keeps.drew ?_) | (with_reducible refine Keeps.drewN ?_ _) | (with_reducible refine Keeps.alloc ?_ _) | (with_reducible refine Keeps.setCell ?_ (by first | exact Or.inl rfl | exact Or.inr (Nat.le_refl _) | exact Or.inr (by first | (simp; done) | (simp; omega))) _))); done) | ((repeat (first | with_reducible assumption | (with_reducible exact Keeps.refl _ _) | (with_reducible refine Keeps.drew ?_) | (with_reducible refine Keeps.drewN ?_ _) | (with_reducible refine Keeps.alloc ?_ _) | (with_reducible refine Keeps.setCell ?_ (by first | exact Or.inl rfl | exact Or.inr (Nat.le_refl _) | exact Or.inr (by first | (simp; done) | (simp; omega))) _))); done))
   clear HKK
   clear K
   try simp only [Act.put, List.setIfInBounds_toArray, List.set_cons_zero, List.set_cons_succ]
   refine wpAnyH_take (i := 23) (v := ?_) (by simp only [List.getElem?_toArray, List.getElem?_cons_succ, List.getElem?_cons_zero]; rfl) (by kernel_rfl) (by kernel_rfl) (by kernel_rfl) (by intro _ _ _ h; exact h) (Or.inl ⟨by rfl, ?_⟩) (by assumption) ?_
   rotate_left
   ·((intro w hSw; (try dsimp only at hSw); go_simp); (try with_reducible rfl))
   try simp only [Act.put, List.setIfInBounds_toArray, List.set_cons_zero, List.set_cons_succ]
   refine wpAnyH_done (by kernel_rfl) ?_ _
   all_goals (go_wp2_with fail; go_meet; refine ⟨_, ?_, rfl, rfl, rfl, ?_, ?_⟩)
   all_goals first
    | exact Nat.le_refl _
    | exact zs
    | (with_reducible exact Bx.new (Keeps.refl NoB _))
    | (exact ((((yb.put 0 _).put 1 _).put 2 _).put 3 _).put 4 _)
    | ((repeat (first | with_reducible assumption | (with_reducible exact Keeps.refl _ _) | (with_reducible refine Keeps.drew ?_) | (with_reducible refine Keeps.drewN ?_ _) | (with_reducible refine Keeps.alloc ?_ _) | (with_reducible refine Keeps.setCell ?_ (by first | exact Or.inl rfl | exact Or.inr (Nat.le_refl _) | exact Or.inr (by first | (simp; done) | (simp; omega))) _))); done)
    | skip
  all_goals (go_wp2_with fail; go_meet; refine ⟨_, ?_, rfl, rfl, rfl, ?_, ?_⟩)
  all_goals first
   | exact Nat.le_refl _
   | exact zs
   | (with_reducible exact Bx.new (Keeps.refl NoB _))
   | (exact ((((yb.put 0 _).put 1 _).put 2 _).put 3 _).put 4 _)
   | ((repeat (first | with_reducible assumption | (with_reducible exact Keeps.refl _ _) | (with_reducible refine Keeps.drew ?_) | (with_reducible refine Keeps.drewN ?_ _) | (with_reducible refine Keeps.alloc ?_ _) | (with_reducible refine Keeps.setCell ?_ (by first | exact Or.inl rfl | exact Or.inr (Nat.le_refl _) | exact Or.inr (by first | (simp; done) | (simp; omega))) _))); done)
   | skip
 case rest =>
  obtain ⟨HIB, hG, rfl, rfl, rfl, HI, hk⟩ := hcut
  replace HI := Lib.hid HI
  have HK := Lib.hid hk
  have HG := Lib.hid hG
  replace HT := Lib.hid (HT.out.on hk)
  clear f0 b0 b1 fl HSt hG hk
  have i0 := HI.out.cell 0 _ rfl
  go_wp2_with (go_at_call 58; go_loud (refine (HSt1.out _).mono ?_); rintro e w5 ⟨rfl, rfl⟩)
  go_ret
  exact ⟨rfl, HK.out⟩
theorem test_two {S : Nat -> Prop} {p : Option Addr} {c : Nat} {op s : ByteArray} (h : TW W Q w B F a d room calls fail (wkC ⟨#[116, 101, 115, 116]⟩ F at' mask iv out err st)) (hA : SlAt encStr S w p c [op, s]) (hop : ¬ op = ⟨#[33]⟩) {r : Int}
 (ho : ∀ w1, Keeps NoB w w1 -> Calls Tryz.prog 62 #[.pointer (some ⟨B, 0, none⟩), .string op, .string s] w1 fun e w' => e = .returned (.int .i64 r) ∧ Keeps NoB w1 w') :
 Calls Tryz.prog 28 #[.pointer (some ⟨B, 0, none⟩), .slice p 2 c] w fun e w' => e = .returned (.int .i64 r) ∧ Keeps NoB w w' := by
 obtain ⟨g, o, rfl, _, hgl, t0⟩ := hA.str (i := 0) (x := op) rfl
 obtain ⟨g1, o1, e1, _, _, t1⟩ := hA.str (i := 1) (x := s) rfl
 cases e1
 have hcp := hA.cap
 have hmx := hA.max
 unfold maxLen at hmx
 simp only [List.length_cons, List.length_nil, Nat.zero_add] at hcp
 have c0 : w.cell? ⟨g, o, none⟩ = some (.string op) := t0
 have hn := toList_ne hop
 rw [show (⟨#[33]⟩ : ByteArray).toList = [33] by rw [Lib.toList_data]] at hn
 have b0 := h.bx.cell 0 _ rfl
 have bl := h.bx.lt
 have HO := Lib.hid ho
 clear h hA hop ho t0
 go_enter Tryz.func28, Tryz.ntmps28
 go_upto_region 19 with fail
 have HO2 := Lib.hid (HO.out _ (Keeps.refl NoB w).drew)
 go_still_tail 7, (by kernel_rfl)
 change wpList _ _ _ _ _ (World.drew _)
 go_wp2_with (go_at_call 62; go_loud (refine HO2.out.mono ?_); rintro e w5 ⟨rfl, hk5⟩)
 go_ret
 exact ⟨rfl, (Keeps.refl NoB w).drew.trans hk5⟩
theorem run_test (h : FSx W Q w F a d room calls fail) {p : Option Addr} {n c : Nat} {bt' : TypeId} {bv : Value} {r : Int}
 (hm : ∀ (Q' : Nat -> Prop) w1 B, TW W Q' w1 B F a d room calls fail (wkC ⟨#[116, 101, 115, 116]⟩ F at' mask (.iface bt' bv) ⟨#[]⟩ ⟨#[]⟩ 0) -> Keeps NoB w w1 ->
   Calls Tryz.prog 28 #[.pointer (some ⟨B, 0, none⟩), .slice p n c] w1 fun e w' => e = .returned (.int .i64 r) ∧ Keeps NoB w1 w') :
 Calls Tryz.prog 11 #[.string ⟨#[116, 101, 115, 116]⟩, .slice p n c, .pointer (some ⟨F, 0, none⟩), .agg #[.int .i64 at', .int .i64 mask], .iface bt' bv] w (FXo W Q w F a d room calls fail (.agg #[.string ⟨#[]⟩, .string ⟨#[]⟩, .int .i64 r])) := by
 have HS := Lib.hid (run_start (bt := bt') (bv := bv) (at' := at') (mask := mask) (name := ⟨#[116, 101, 115, 116]⟩) h)
 have HM := Lib.hid (fun Q' w1 B h1 h2 => hm Q' w1 B h1 h2)
 have HW := Lib.hid h.keeps.size
 clear h hm
 go_enter Tryz.func11, Tryz.ntmps11
 go_upto_region 2 with fail
 obtain ⟨HT, HR, HK, hBR⟩ := HS.out
 generalize ((w.alloc (.cells #[.int .i64 at', .int .i64 mask] 28)).alloc (.cells #[.string ⟨#[]⟩, .string ⟨#[]⟩, .int .i64 0] 37)).alloc (.cells #[.string ⟨#[116, 101, 115, 116]⟩, .pointer (some ⟨F, 0, none⟩), .int .i64 at', .int .i64 mask, .iface bt' bv, .string ⟨#[]⟩, .string ⟨#[]⟩, .int .i64 0] 70) = w3 at *
 have HC := Lib.hid (HM.out _ _ _ HT HK)
 have hkz := HK.size
 have HKw := Lib.hid HK
 have HRw := Lib.hid HR
 have HTw := Lib.hid HT
 have hne : Hid (¬ w.heap.size + 1 = w.heap.size + 1 + 1) := by show ¬ _; omega
 have HBB : Hid (w.heap.size <= w.heap.size + 1 + 1) := by show _ <= _; omega
 generalize w.heap.size + 1 + 1 = B at *
 clear HM HK HR HT
 go_wp2_with (go_at_call 28; go_loud (refine HC.out.mono ?_); rintro e w4 ⟨rfl, hk4⟩; have ht4 := HTw.out.on hk4; have hr4 := HRw.out.on hk4; have ht5 := ht4.put 7 (.int .i64 r); have hr5 := hr4.keep (keeps_set w4 ⟨B, 7, none⟩ (.int .i64 r)) (fun e => hne.out e); have a5 := ht4.bx.cell 5 _ rfl; have a6 := ht4.bx.cell 6 _ rfl; have a7 := ht4.bx.cell 7 _ rfl; have c5 := ht5.bx.cell 5 _ rfl; have c6 := ht5.bx.cell 6 _ rfl; have c7 := ht5.bx.cell 7 _ rfl; have ab := ht4.bx.lt; have af := ht4.bx.fz 7; have r0 := hr5.cell 0 _ rfl; have r1 := hr5.cell 1 _ rfl; have r2 := hr5.cell 2 _ rfl; have rf := hr5.fz; have rl := hr5.lt)
 have hW : W.heap.size <= w.heap.size := HW.out
 refine bodyPost_ret (v := .agg #[.string ⟨#[]⟩, .string ⟨#[]⟩, .int .i64 r]) ?_ rfl ?_
 ·rw [results_cell_oneT rfl]; go_simp
 obtain ⟨w5, hw5⟩ : ∃ w5, w4.setCell ⟨B, 7, none⟩ (.int .i64 r) = w5 := ⟨_, rfl⟩
 rw [hw5] at ht5 ⊢
 have k45 : Keeps (fun x => x = B) w4 w5 := by rw [<- hw5]; exact keeps_set w4 ⟨B, 7, none⟩ (.int .i64 r)
 have k3 := kset w5 ⟨w.heap.size + 1, 0, none⟩ (.string ⟨#[]⟩)
 have k4 := kset (w5.setCell ⟨w.heap.size + 1, 0, none⟩ (.string ⟨#[]⟩)) ⟨w.heap.size + 1, 1, none⟩ (.string ⟨#[]⟩)
 have k5 := kset ((w5.setCell ⟨w.heap.size + 1, 0, none⟩ (.string ⟨#[]⟩)).setCell ⟨w.heap.size + 1, 1, none⟩ (.string ⟨#[]⟩)) ⟨w.heap.size + 1, 2, none⟩ (.int .i64 r)
 have k6 := (k3.trans k4).trans k5
 have t6 := ht5.fx.turn k6 (fun g hg => ⟨.inr (.inr hg), by have e : g = w.heap.size + 1 := hg; omega⟩)
 refine ⟨rfl, t6.more (Keeps.refl _ _) (fun g hg => .inl (.inr (.inl hg))), ?_⟩
 exact (((HKw.out.trans hk4).of_none).step k45 (fun g hg => .inr (by have e : g = B := hg; have := HBB.out; omega))).step k6 (fun g hg => .inr (by have e : g = w.heap.size + 1 := hg; omega))
theorem mkdir_one {S : Nat -> Prop} {p : Option Addr} {c : Nat} {s : ByteArray} (h : TW W Q w B F a d room calls fail (wkC name F at' mask iv out err st)) (hA : SlAt encStr S w p c [s]) (hf : noFlag s = true) (hs2 : s.size <= 1000)
 (hc0 : 0 <= calls) (hc1 : calls <= 4611686018427387904) (hb : mass d + 3 <= 2147483648)
 {d2 : Nds} (hd2 : DInv d -> NoGarb d -> orFail calls fail d (mkdirR d room at' mask s 511) = (d2, 0)) :
 Calls Tryz.prog 31 #[.pointer (some ⟨B, 0, none⟩), .slice p 1 c] w fun e w' => e = .returned (.tuple #[]) ∧ TW W Q w' B F a d2 room (calls + 1) fail (wkC name F at' mask iv out err st) ∧ Keeps (Lw W Q) w w' := by
 have HT := Lib.hid h
 have HF := Lib.hid (flags_none hA ⟨#[112, 109]⟩ (fun y hy => by cases hy; exact hf))
 simp only [List.length_cons, List.length_nil, Nat.zero_add] at HF
 obtain ⟨vg, vo, hvp, hvS, hvl, c0⟩ := hA.str (i := 0) (x := s) rfl
 have hcp := hA.cap
 have hmx := hA.max
 unfold maxLen at hmx
 simp only [List.length_cons, List.length_nil, Nat.zero_add] at hcp
 subst hvp
 have HC0 : Hid (w.cell? ⟨vg, vo, none⟩ = some (.string s)) := c0
 have HM : Hid (∀ w1 : World, TW W Q w1 B F a d room calls fail (wkC name F at' mask iv out err st) -> Calls Tryz.prog 15 #[.pointer (some ⟨F, 0, none⟩), .agg #[.int .i64 at', .int .i64 mask], .string s, .int .i64 511] w1 fun e w' => e = .returned (.int .i64 0) ∧ TW W Q w' B F a d2 room (calls + 1) fail (wkC name F at' mask iv out err st) ∧ Keeps (Gd W Q B) w1 w') := Lib.hid fun w1 k => by
  have := k.call (fun N hN => mkdir_any hN hc0 hc1 hb at' mask s 511 (by omega))
  rw [hd2 k.fx.inv k.fx.clean] at this
  exact this
 have HSf := Lib.hid (fun w1 : World => hsm ⟨#[]⟩ w1 (.inr rfl))
 have HI1 := Lib.hid (fun wx => ib_any ⟨#[]⟩ 109 wx)
 rw [show bIdx (⟨#[]⟩ : ByteArray) ((109 : Int)).toNat.toUInt8 = -1 by decide] at HI1
 have HI2 := Lib.hid (fun wx => ib_any ⟨#[]⟩ 112 wx)
 rw [show bIdx (⟨#[]⟩ : ByteArray) ((112 : Int)).toNat.toUInt8 = -1 by decide] at HI2
 have HWr := Lib.hid (fun w1 : World => wrong_ok (B := B) 1 w1)
 clear h hA hvS hvl c0 hf hd2 hc0 hc1 hb hs2
 go_enter Tryz.func31, Tryz.ntmps31
 go_upto_region 8 with (first | (go_at_call 65; go_loud (refine HF.out.mono ?_); rintro e w1 ⟨rfl, rfl⟩) | (go_at_call 45; go_loud (refine (HSf.out _).mono ?_); rintro e w2 ⟨rfl, rfl⟩) | (go_at_call 42; go_loud (refine (HI1.out _).mono ?_); rintro e w3 ⟨rfl, rfl⟩))
 clear HF HSf HI1
 go_wp2_with fail
 go_loopw [69] (fun i wr => (i = .int .i64 0 ∧ wr = w) ∨ (i = .int .i64 1 ∧ TW W Q wr B F a d2 room (calls + 1) fail (wkC name F at' mask iv out err st) ∧ Keeps (Lw W Q) w wr)) (fun i _ => 2 - (intOf i).toNat)
 case atStart => exact .inl ⟨rfl, rfl⟩
 case round =>
  rcases hrel with ⟨rfl, hw⟩ | ⟨rfl, ht, hk⟩
  ·obtain rfl : w = wr := hw.symm
   have c1 := HC0.out
   go_upto_region 15 with (go_at_call 42; go_loud (refine (HI2.out _).mono ?_); rintro e w3 ⟨rfl, rfl⟩)
   have HM7 := Lib.hid (HM.out _ (HT.out.on (Keeps.refl NoB _).drew))
   have hd := HT.out.on (Keeps.refl NoB _).drew
   have HD := Lib.hid hd
   have g0 := HT.out.bx.cell 1 _ rfl
   have g1 := HT.out.bx.cell 2 _ rfl
   have g2 := HT.out.bx.cell 3 _ rfl
   have f0 := hd.bx.cell 1 _ rfl
   have f1 := hd.bx.cell 2 _ rfl
   have f2 := hd.bx.cell 3 _ rfl
   have fl := hd.bx.lt
   clear hd
   go_still_tail 9, (by kernel_rfl)
   change wpList _ _ _ _ _ (World.drew _)
   go_wp2_with (first | (go_at_call 15; go_loud (refine HM7.out.mono ?_); rintro e w5 ⟨rfl, ht5, hk5⟩) | (go_at_call 30; go_loud (refine (HWr.out _).mono ?_); rintro e w6 ⟨rfl, rfl⟩))
   go_roundw
   case rel => exact .inr ⟨by go_num, ht5, ((Keeps.refl _ _).drew).trans (gd_low hk5)⟩
   case measure => simp [intOf]
  ·go_wp2_with fail
   go_end0
   exact ⟨rfl, ht, hk⟩
end
end Go.Proofs.YtimidmogcbapnaaGreatDoor
