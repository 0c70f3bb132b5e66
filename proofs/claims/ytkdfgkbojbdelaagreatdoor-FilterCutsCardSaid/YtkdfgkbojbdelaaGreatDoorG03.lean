/-
  Layer 22: contracts: CutPrefix of a sign; head and tail with a number.
-/
import Derived.Test.YtkdfgkbojbdelaaGreatDoorG02
import Derived.Laws.EntriesVeiled
import Derived.Deep.RegionHeld3
import Derived.BigRegion
import Derived.BigQuiet
import Derived.Test.YtkdfgkbojbdelaaGreatDoorRows
import Derived.LaidSub
import Derived.OpenShut
import Derived.Lib.LaidTab

set_option linter.unusedSimpArgs false
set_option linter.unusedVariables false
set_option maxRecDepth 100000
set_option maxHeartbeats 4000000
namespace Go.Proofs.YtkdfgkbojbdelaaGreatDoor
open Go Go.RowKit
def plB (d : Nat) : ByteArray := ⟨#[43, (48 + d).toUInt8]⟩
theorem plB_facts (d : Nat) : (plB d).size = 2 ∧ (plB d).extract 0 1 = ⟨#[43]⟩ ∧ (plB d).extract 1 2 = dgB d := ⟨rfl, rfl, rfl⟩
theorem dgB_facts (d : Nat) (hd : d <= 9) : (dgB d).size = 1 ∧ (dgB d).extract 0 1 = dgB d ∧ ((dgB d).toList == [43]) = false := by
 refine ⟨rfl, rfl, ?_⟩
 rw [Lib.toList_data]
 have : ∀ d : Fin 10, ((dgB d.val).data.toList == [43]) = false := by decide
 exact this ⟨d, by omega⟩
theorem hasp_plus (d : Nat) (w : World) : Calls Tryz.prog 92 #[.string (plB d), .string ⟨#[43]⟩] w fun e w' => e = .returned (.bool true) ∧ w = w' := by
 obtain ⟨h1, h2, _⟩ := plB_facts d
 generalize plB d = x at *
 go_enter Tryz.func92, Tryz.ntmps92
 go_wp2
 go_ret
 exact ⟨by first | rfl | exact ret_bool (by simp), rfl⟩
theorem hasp_dig (d : Nat) (hd : d <= 9) (w : World) : Calls Tryz.prog 92 #[.string (dgB d), .string ⟨#[43]⟩] w fun e w' => e = .returned (.bool false) ∧ w = w' := by
 obtain ⟨h1, h2, h3⟩ := dgB_facts d hd
 generalize dgB d = x at *
 go_enter Tryz.func92, Tryz.ntmps92
 go_wp2
 go_ret
 exact ⟨by first | rfl | exact ret_bool (by simp), rfl⟩
theorem cut_plus (d : Nat) (w : World) : Calls Tryz.prog 39 #[.string (plB d), .string ⟨#[43]⟩] w fun e w' => e = .returned (.tuple #[.string (dgB d), .bool true]) ∧ w = w' := by
 have HH := Lib.hid (hasp_plus d w)
 have h1 := (plB_facts d).1
 have h3 := (plB_facts d).2.2
 have h4 : (dgB d).size = 1 := rfl
 have H2 : Hid (Calls Tryz.prog 63 #[.string (plB d), .string ⟨#[43]⟩] w fun e w' => e = .returned (.tuple #[.string (dgB d), .bool true]) ∧ w = w') := by
  show Calls _ _ _ _ _
  generalize dgB d = y at *
  generalize plB d = x at *
  go_enter Tryz.func63, Tryz.ntmps63
  go_wp2_with (go_at_call 92; go_loud (refine HH.out.mono ?_); rintro e w1 ⟨rfl, rfl⟩)
  go_ret2
  exact ⟨rfl, rfl⟩
 clear HH h1 h3 h4
 go_enter Tryz.func39, Tryz.ntmps39
 go_wp2_with (go_at_call 63; go_loud (refine H2.out.mono ?_); rintro e w1 ⟨rfl, rfl⟩)
 go_ret2
 exact ⟨rfl, rfl⟩
theorem cut_dig (d : Nat) (hd : d <= 9) (w : World) : Calls Tryz.prog 39 #[.string (dgB d), .string ⟨#[43]⟩] w fun e w' => e = .returned (.tuple #[.string (dgB d), .bool false]) ∧ w = w' := by
 have HH := Lib.hid (hasp_dig d hd w)
 have h1 := (plB_facts d).1
 have h3 := (plB_facts d).2.2
 have h4 : (dgB d).size = 1 := rfl
 have H2 : Hid (Calls Tryz.prog 63 #[.string (dgB d), .string ⟨#[43]⟩] w fun e w' => e = .returned (.tuple #[.string (dgB d), .bool false]) ∧ w = w') := by
  show Calls _ _ _ _ _
  generalize dgB d = y at *
  generalize plB d = x at *
  go_enter Tryz.func63, Tryz.ntmps63
  go_wp2_with (go_at_call 92; go_loud (refine HH.out.mono ?_); rintro e w1 ⟨rfl, rfl⟩)
  go_ret2
  exact ⟨rfl, rfl⟩
 clear HH h1 h3 h4
 go_enter Tryz.func39, Tryz.ntmps39
 go_wp2_with (go_at_call 63; go_loud (refine H2.out.mono ?_); rintro e w1 ⟨rfl, rfl⟩)
 go_ret2
 exact ⟨rfl, rfl⟩
theorem hd_start (w : World) (nm : ByteArray) : Hd (((((w.alloc (.cells #[.string nm] 9)).alloc (.cells #[.string ⟨#[]⟩, .string ⟨#[]⟩, .int .i64 0] 31)).alloc (.cells #[.int .i64 10] 3)).alloc (.cells #[.bool false] 4)).alloc (.cells #[.bool false] 4)) (w.heap.size + 1 + 1) (w.heap.size) (w.heap.size + 1 + 1 + 1) (w.heap.size + 1 + 1 + 1 + 1) 10 nm false false ∧ Bk (((((w.alloc (.cells #[.string nm] 9)).alloc (.cells #[.string ⟨#[]⟩, .string ⟨#[]⟩, .int .i64 0] 31)).alloc (.cells #[.int .i64 10] 3)).alloc (.cells #[.bool false] 4)).alloc (.cells #[.bool false] 4)) (w.heap.size + 1) res0 ∧ Keeps NoB w (((((w.alloc (.cells #[.string nm] 9)).alloc (.cells #[.string ⟨#[]⟩, .string ⟨#[]⟩, .int .i64 0] 31)).alloc (.cells #[.int .i64 10] 3)).alloc (.cells #[.bool false] 4)).alloc (.cells #[.bool false] 4)) := by
 have k0 : Keeps NoB w (w.alloc (.cells #[.string nm] 9)) := (Keeps.refl _ _).alloc _
 have k1 : Keeps NoB (w.alloc (.cells #[.string nm] 9)) ((w.alloc (.cells #[.string nm] 9)).alloc (.cells #[.string ⟨#[]⟩, .string ⟨#[]⟩, .int .i64 0] 31)) := (Keeps.refl _ _).alloc _
 have k2 : Keeps NoB ((w.alloc (.cells #[.string nm] 9)).alloc (.cells #[.string ⟨#[]⟩, .string ⟨#[]⟩, .int .i64 0] 31)) (((w.alloc (.cells #[.string nm] 9)).alloc (.cells #[.string ⟨#[]⟩, .string ⟨#[]⟩, .int .i64 0] 31)).alloc (.cells #[.int .i64 10] 3)) := (Keeps.refl _ _).alloc _
 have k3 : Keeps NoB (((w.alloc (.cells #[.string nm] 9)).alloc (.cells #[.string ⟨#[]⟩, .string ⟨#[]⟩, .int .i64 0] 31)).alloc (.cells #[.int .i64 10] 3)) ((((w.alloc (.cells #[.string nm] 9)).alloc (.cells #[.string ⟨#[]⟩, .string ⟨#[]⟩, .int .i64 0] 31)).alloc (.cells #[.int .i64 10] 3)).alloc (.cells #[.bool false] 4)) := (Keeps.refl _ _).alloc _
 have k4 : Keeps NoB ((((w.alloc (.cells #[.string nm] 9)).alloc (.cells #[.string ⟨#[]⟩, .string ⟨#[]⟩, .int .i64 0] 31)).alloc (.cells #[.int .i64 10] 3)).alloc (.cells #[.bool false] 4)) (((((w.alloc (.cells #[.string nm] 9)).alloc (.cells #[.string ⟨#[]⟩, .string ⟨#[]⟩, .int .i64 0] 31)).alloc (.cells #[.int .i64 10] 3)).alloc (.cells #[.bool false] 4)).alloc (.cells #[.bool false] 4)) := (Keeps.refl _ _).alloc _
 have z1 : (w.alloc (.cells #[.string nm] 9)).heap.size = w.heap.size + 1 := by simp
 have z2 : ((w.alloc (.cells #[.string nm] 9)).alloc (.cells #[.string ⟨#[]⟩, .string ⟨#[]⟩, .int .i64 0] 31)).heap.size = w.heap.size + 1 + 1 := by simp
 have z3 : (((w.alloc (.cells #[.string nm] 9)).alloc (.cells #[.string ⟨#[]⟩, .string ⟨#[]⟩, .int .i64 0] 31)).alloc (.cells #[.int .i64 10] 3)).heap.size = w.heap.size + 1 + 1 + 1 := by simp
 have z4 : ((((w.alloc (.cells #[.string nm] 9)).alloc (.cells #[.string ⟨#[]⟩, .string ⟨#[]⟩, .int .i64 0] 31)).alloc (.cells #[.int .i64 10] 3)).alloc (.cells #[.bool false] 4)).heap.size = w.heap.size + 1 + 1 + 1 + 1 := by simp
 have hM := Bk.new (((k1.trans k2).trans k3).trans k4)
 have hR := Bk.new ((k2.trans k3).trans k4)
 rw [z1] at hR
 have hN := Bk.new (k3.trans k4)
 rw [z2] at hN
 have hF := Bk.new k4
 rw [z3] at hF
 have hB := Bk.new (Keeps.refl NoB (((((w.alloc (.cells #[.string nm] 9)).alloc (.cells #[.string ⟨#[]⟩, .string ⟨#[]⟩, .int .i64 0] 31)).alloc (.cells #[.int .i64 10] 3)).alloc (.cells #[.bool false] 4)).alloc (.cells #[.bool false] 4)))
 rw [z4] at hB
 exact ⟨⟨hN, hM, hF, hB⟩, hR, (((k0.trans k1).trans k2).trans k3).trans k4⟩
theorem ends_H (d : Nat) (b : Bool) (s : ByteArray) (w : World) {S : Nat -> Prop} {p : Option Addr} {c : Nat} (hS : SlAt encStr S w p c [if b then ⟨#[45, 99]⟩ else ⟨#[45, 110]⟩, dgB d]) (hd : d <= 8) (hz : s.size <= 500) :
 Calls Tryz.prog 18 #[.string headB, .slice p 2 c, inOf s] w fun e w' => ∃ t, e = .returned (.agg #[.string t, .string ⟨#[]⟩, .int .i64 0]) ∧ (t = s.extract 0 (plcF s d b)) ∧ Keeps NoB w w' := by
 obtain ⟨g, o, rfl, _, hgl, c0⟩ := hS.str (i := 0) rfl
 obtain ⟨g1, o1, e1, _, _, c1⟩ := hS.str (i := 1) (x := dgB d) rfl
 cases e1
 have hcp := hS.cap
 have hmx := hS.max
 unfold maxLen at hmx
 simp only [List.length_cons, List.length_nil, Nat.zero_add] at hcp
 simp only [Nat.add_zero] at c0
 have hsl2 : ∀ wx : World, (Instr.slice 29 (.slice (some ⟨g, o, none⟩) 2 c) (some (.int .i64 2)) none none).run Tryz.prog wx = .ok (.slice (subAt 1 (some ⟨g, o, none⟩) c 2) 0 (c - 2)) wx := fun wx => run_slice_l (P := Tryz.prog) 29 9 1 Tryz.underlying29 (by kernel_rfl) (some ⟨g, o, none⟩) 2 c 2 (by omega) wx (by omega)
 have HS2 := Lib.hid hsl2
 have HC0 := Lib.hid c0
 have HC1 := Lib.hid c1
 have HRd := Lib.hid (fun w1 : World => digit_any d (by omega) w1)
 have hdz : (dgB d).size = 1 := rfl
 have HDz := Lib.hid hdz
 obtain ⟨hs5, hr5, hk5⟩ := hd_start w headB
 have HD5 := Lib.hid hs5
 have HR5 := Lib.hid hr5
 have HK5 := Lib.hid hk5
 have q1 : (d : Int) <= 8 := by omega
 clear hS c0 c1 hsl2 hs5 hr5 hk5 hdz
 unfold inOf
 go_enter Tryz.func18, Tryz.ntmps18
 go_upto_region 2 with fail
 generalize (((((w.alloc (.cells #[.string headB] 9)).alloc (.cells #[.string ⟨#[]⟩, .string ⟨#[]⟩, .int .i64 0] 31)).alloc (.cells #[.int .i64 10] 3)).alloc (.cells #[.bool false] 4)).alloc (.cells #[.bool false] 4)) = w5 at *
 obtain ⟨MB, hMB⟩ : ∃ x, w.heap.size = x := ⟨_, rfl⟩
 obtain ⟨RB, hRB⟩ : ∃ x, w.heap.size + 1 = x := ⟨_, rfl⟩
 obtain ⟨NB, hNB⟩ : ∃ x, w.heap.size + 1 + 1 = x := ⟨_, rfl⟩
 obtain ⟨FB, hFB⟩ : ∃ x, w.heap.size + 1 + 1 + 1 = x := ⟨_, rfl⟩
 obtain ⟨BB, hBB⟩ : ∃ x, w.heap.size + 1 + 1 + 1 + 1 = x := ⟨_, rfl⟩
 have HNum : Hid (w.heap.size <= NB ∧ w.heap.size <= FB ∧ w.heap.size <= BB ∧ w.heap.size <= RB ∧ ¬ MB = BB ∧ ¬ MB = FB ∧ ¬ MB = NB ∧ ¬ RB = BB ∧ ¬ RB = FB ∧ ¬ RB = NB ∧ ¬ NB = BB ∧ ¬ NB = FB ∧ ¬ FB = BB) := by show _ ∧ _; omega
 rw [hBB, hFB, hNB, hMB] at HD5
 rw [hRB] at HR5
 rw [hBB, hFB, hNB, hRB, hMB]
 clear hMB hRB hNB hFB hBB
 obtain ⟨n1, n2, n3, n3b, n4, n5, n6, n7, n8, n9, n10, n11, n12⟩ := HNum.out
 have a0 : w5.cell? ⟨g, o, none⟩ = some (.string (if b then ⟨#[45, 99]⟩ else ⟨#[45, 110]⟩)) := (HK5.out.cell (p := ⟨g, o, none⟩) hgl (fun h => h)).trans HC0.out
 have a1 : w5.cell? ⟨g, o + 1, none⟩ = some (.string (dgB d)) := (HK5.out.cell (p := ⟨g, o + 1, none⟩) hgl (fun h => h)).trans HC1.out
 have N4 := Lib.hid n4
 have N5 := Lib.hid n5
 have N6 := Lib.hid n6
 have N7 := Lib.hid n7
 have N8 := Lib.hid n8
 have N9 := Lib.hid n9
 have N10 := Lib.hid n10
 have N11 := Lib.hid n11
 have N12 := Lib.hid n12
 have L1 := Lib.hid n1
 have L2 := Lib.hid n2
 have L3 := Lib.hid n3
 have L4 := Lib.hid n3b
 clear n1 n2 n3 n3b n4 n5 n6 n7 n8 n9 n10 n11 n12 HNum
 cases b
 ·have a0 : w5.cell? ⟨g, o, none⟩ = some (.string ⟨#[45, 110]⟩) := a0
  have kb := kset w5 ⟨BB, 0, none⟩ (.bool false)
  have hd6 : Hd (w5.setCell ⟨BB, 0, none⟩ (.bool false)) NB MB FB BB 10 headB false false := ⟨HD5.out.n.keep kb N10.out, HD5.out.m.keep kb N4.out, HD5.out.r.keep kb N12.out, HD5.out.b.put 0 (.bool false)⟩
  have hr6 := HR5.out.keep kb N7.out
  have hk6 := HK5.out.step kb (fun x hx => .inr (by rw [hx]; exact L3.out))
  have hd7 := hd6
  have hr7 := hr6
  have hk7 := hk6
  have m0 := hd6.m.cell 0 _ rfl
  have ml := hd6.m.lt
  have b0 := HD5.out.b.cell 0 _ rfl
  have bf := HD5.out.b.fz 0
  have bl := HD5.out.b.lt
  have HD7 := Lib.hid hd7
  have HR7 := Lib.hid hr7
  have HK7 := Lib.hid hk7
  have hdz := HDz.out
  generalize hxx : dgB d = x at *
  clear hd6 hd7 hr6 hr7 hk6 hk7 kb hxx
  go_upto_region 10 with (first | (go_at_call 40; go_loud (refine (HRd.out _).mono ?_); rintro e w8 ⟨rfl, hk8⟩))
  have hd8 := HD7.out.on hk8
  have hr8 := HR7.out.on hk8
  have hk9 := HK7.out.trans hk8
  have kn := kset w8 ⟨NB, 0, none⟩ (.int .i64 (d : Int))
  have hd9 : Hd ((w8.setCell ⟨NB, 0, none⟩ (.int .i64 (d : Int))).drew) NB MB FB BB (d : Int) headB false false := Hd.on ⟨hd8.n.put 0 (.int .i64 (d : Int)), hd8.m.keep kn N6.out, hd8.r.keep kn (fun e => N11.out e.symm), hd8.b.keep kn (fun e => N10.out e.symm)⟩ ((Keeps.refl NoB _).drew)
  have hr9 := (hr8.keep kn N9.out).on ((Keeps.refl NoB (w8.setCell ⟨NB, 0, none⟩ (.int .i64 (d : Int)))).drew)
  have hk10 := (hk9.step kn (fun x hx => .inr (by rw [hx]; exact L1.out))).drew
  have c0 := hd8.n.cell 0 _ rfl
  have cf := hd8.n.fz 0
  have cl := hd8.n.lt
  have e0 := hd9.m.cell 0 _ rfl
  have el := hd9.m.lt
  have HR9 := Lib.hid hr9
  have HK10 := Lib.hid hk10
  have HE := Lib.hid (fun (pp : Option Addr) (cc : Nat) => each_none headB s _ NB MB FB BB pp cc (fun t => t = s.extract 0 (plcF s d false)) (fun w4 k4 => by (refine (ends_head (hd9.on k4) (by omega) (by omega)).mono ?_; rintro e w' ⟨h1, h2⟩; exact ⟨_, h1, rfl, h2⟩)))
  unfold inOf at HE
  have hsl2 := HS2.out
  clear hd8 hr8 hk9 kn hd9 hr9 hk10 m0 ml b0 bf bl a0 a1 
  generalize subAt 1 (some ⟨g, o, none⟩) c 2 = pa at *
  go_region
  all_goals
   go_wp2_with (go_at_call 14; go_loud (refine (HE.out _ _).mono ?_); rintro e w11 ⟨t, rfl, hpt, hk11⟩; have hb := HR9.out.on hk11; have r0 := hb.cell 0 _ rfl; have r1 := hb.cell 1 _ rfl; have r2 := hb.cell 2 _ rfl; have rf := hb.fz; have rl := hb.lt)
   refine bodyPost_ret (v := .agg #[.string t, .string ⟨#[]⟩, .int .i64 0]) ?_ rfl ?_
   ·rw [results_cell_oneF rfl]; go_simp
   refine ⟨t, rfl, hpt, ?_⟩
   exact (((HK10.out.trans hk11).step (kset _ ⟨RB, 0, none⟩ _) (fun x hx => .inr (by rw [hx]; exact L4.out))).step (kset _ ⟨RB, 1, none⟩ _) (fun x hx => .inr (by rw [hx]; exact L4.out))).step (kset _ ⟨RB, 2, none⟩ _) (fun x hx => .inr (by rw [hx]; exact L4.out))
 ·have a0 : w5.cell? ⟨g, o, none⟩ = some (.string ⟨#[45, 99]⟩) := a0
  have kb := kset w5 ⟨BB, 0, none⟩ (.bool true)
  have hd6 : Hd (w5.setCell ⟨BB, 0, none⟩ (.bool true)) NB MB FB BB 10 headB false true := ⟨HD5.out.n.keep kb N10.out, HD5.out.m.keep kb N4.out, HD5.out.r.keep kb N12.out, HD5.out.b.put 0 (.bool true)⟩
  have hr6 := HR5.out.keep kb N7.out
  have hk6 := HK5.out.step kb (fun x hx => .inr (by rw [hx]; exact L3.out))
  have hd7 := hd6
  have hr7 := hr6
  have hk7 := hk6
  have m0 := hd6.m.cell 0 _ rfl
  have ml := hd6.m.lt
  have b0 := HD5.out.b.cell 0 _ rfl
  have bf := HD5.out.b.fz 0
  have bl := HD5.out.b.lt
  have HD7 := Lib.hid hd7
  have HR7 := Lib.hid hr7
  have HK7 := Lib.hid hk7
  have hdz := HDz.out
  generalize hxx : dgB d = x at *
  clear hd6 hd7 hr6 hr7 hk6 hk7 kb hxx
  go_upto_region 10 with (first | (go_at_call 40; go_loud (refine (HRd.out _).mono ?_); rintro e w8 ⟨rfl, hk8⟩))
  have hd8 := HD7.out.on hk8
  have hr8 := HR7.out.on hk8
  have hk9 := HK7.out.trans hk8
  have kn := kset w8 ⟨NB, 0, none⟩ (.int .i64 (d : Int))
  have hd9 : Hd ((w8.setCell ⟨NB, 0, none⟩ (.int .i64 (d : Int))).drew) NB MB FB BB (d : Int) headB false true := Hd.on ⟨hd8.n.put 0 (.int .i64 (d : Int)), hd8.m.keep kn N6.out, hd8.r.keep kn (fun e => N11.out e.symm), hd8.b.keep kn (fun e => N10.out e.symm)⟩ ((Keeps.refl NoB _).drew)
  have hr9 := (hr8.keep kn N9.out).on ((Keeps.refl NoB (w8.setCell ⟨NB, 0, none⟩ (.int .i64 (d : Int)))).drew)
  have hk10 := (hk9.step kn (fun x hx => .inr (by rw [hx]; exact L1.out))).drew
  have c0 := hd8.n.cell 0 _ rfl
  have cf := hd8.n.fz 0
  have cl := hd8.n.lt
  have e0 := hd9.m.cell 0 _ rfl
  have el := hd9.m.lt
  have HR9 := Lib.hid hr9
  have HK10 := Lib.hid hk10
  have HE := Lib.hid (fun (pp : Option Addr) (cc : Nat) => each_none headB s _ NB MB FB BB pp cc (fun t => t = s.extract 0 (plcF s d true)) (fun w4 k4 => by (refine (ends_head (hd9.on k4) (by omega) (by omega)).mono ?_; rintro e w' ⟨h1, h2⟩; exact ⟨_, h1, rfl, h2⟩)))
  unfold inOf at HE
  have hsl2 := HS2.out
  clear hd8 hr8 hk9 kn hd9 hr9 hk10 m0 ml b0 bf bl a0 a1 
  generalize subAt 1 (some ⟨g, o, none⟩) c 2 = pa at *
  go_region
  all_goals
   go_wp2_with (go_at_call 14; go_loud (refine (HE.out _ _).mono ?_); rintro e w11 ⟨t, rfl, hpt, hk11⟩; have hb := HR9.out.on hk11; have r0 := hb.cell 0 _ rfl; have r1 := hb.cell 1 _ rfl; have r2 := hb.cell 2 _ rfl; have rf := hb.fz; have rl := hb.lt)
   refine bodyPost_ret (v := .agg #[.string t, .string ⟨#[]⟩, .int .i64 0]) ?_ rfl ?_
   ·rw [results_cell_oneF rfl]; go_simp
   refine ⟨t, rfl, hpt, ?_⟩
   exact (((HK10.out.trans hk11).step (kset _ ⟨RB, 0, none⟩ _) (fun x hx => .inr (by rw [hx]; exact L4.out))).step (kset _ ⟨RB, 1, none⟩ _) (fun x hx => .inr (by rw [hx]; exact L4.out))).step (kset _ ⟨RB, 2, none⟩ _) (fun x hx => .inr (by rw [hx]; exact L4.out))
theorem run_H (d : Nat) (b : Bool) (s : ByteArray) (w : World) {S : Nat -> Prop} {p : Option Addr} {c : Nat} (hS : SlAt encStr S w p c [if b then ⟨#[45, 99]⟩ else ⟨#[45, 110]⟩, dgB d]) (hd : d <= 8) (hz : s.size <= 500) :
 Calls Tryz.prog 6 #[.string headB, .slice p 2 c, inOf s] w fun e w' => ∃ t, e = .returned (.agg #[.string t, .string ⟨#[]⟩, .int .i64 0]) ∧ (t = s.extract 0 (plcF s d b)) ∧ Keeps NoB w w' := by
 have ka : Keeps NoB w (w.alloc (.cells #[.string ⟨#[]⟩, .string ⟨#[]⟩, .int .i64 0] 31)) := (Keeps.refl _ _).alloc _
 have HC := Lib.hid (ends_H d b s _ (hS.keepN ka) hd hz)
 clear hS ka
 go_enter Tryz.func6, Tryz.ntmps6
 go_wp2_with (go_at_call 18; go_loud (refine HC.out.mono ?_); rintro e w1 ⟨t, rfl, hpt, hk1⟩; have hb := Bk.new hk1; have r0 := hb.cell 0 _ rfl; have r1 := hb.cell 1 _ rfl; have r2 := hb.cell 2 _ rfl; have rf := hb.fz; have rl := hb.lt)
 refine bodyPost_ret (v := .agg #[.string t, .string ⟨#[]⟩, .int .i64 0]) ?_ rfl ?_
 ·rw [results_cell_oneF rfl]; go_simp
 refine ⟨t, rfl, hpt, ?_⟩
 have k := (((Keeps.refl NoB w).alloc (.cells #[.string ⟨#[]⟩, .string ⟨#[]⟩, .int .i64 0] 31)).trans hk1)
 exact ((k.step (kset _ ⟨w.heap.size, 0, none⟩ _) (fun g hg => .inr (Nat.le_of_eq hg.symm))).step (kset _ ⟨w.heap.size, 1, none⟩ _) (fun g hg => .inr (Nat.le_of_eq hg.symm))).step (kset _ ⟨w.heap.size, 2, none⟩ _) (fun g hg => .inr (Nat.le_of_eq hg.symm))
theorem ends_P (d : Nat) (b : Bool) (s : ByteArray) (w : World) {S : Nat -> Prop} {p : Option Addr} {c : Nat} (hS : SlAt encStr S w p c [if b then ⟨#[45, 99]⟩ else ⟨#[45, 110]⟩, plB (d + 1)]) (hd : d <= 8) (hz : s.size <= 500) :
 Calls Tryz.prog 18 #[.string tailB, .slice p 2 c, inOf s] w fun e w' => ∃ t, e = .returned (.agg #[.string t, .string ⟨#[]⟩, .int .i64 0]) ∧ (t = s.extract (plcF s d b) s.size) ∧ Keeps NoB w w' := by
 obtain ⟨g, o, rfl, _, hgl, c0⟩ := hS.str (i := 0) rfl
 obtain ⟨g1, o1, e1, _, _, c1⟩ := hS.str (i := 1) (x := plB (d + 1)) rfl
 cases e1
 have hcp := hS.cap
 have hmx := hS.max
 unfold maxLen at hmx
 simp only [List.length_cons, List.length_nil, Nat.zero_add] at hcp
 simp only [Nat.add_zero] at c0
 have hsl2 : ∀ wx : World, (Instr.slice 29 (.slice (some ⟨g, o, none⟩) 2 c) (some (.int .i64 2)) none none).run Tryz.prog wx = .ok (.slice (subAt 1 (some ⟨g, o, none⟩) c 2) 0 (c - 2)) wx := fun wx => run_slice_l (P := Tryz.prog) 29 9 1 Tryz.underlying29 (by kernel_rfl) (some ⟨g, o, none⟩) 2 c 2 (by omega) wx (by omega)
 have HS2 := Lib.hid hsl2
 have HC0 := Lib.hid c0
 have HC1 := Lib.hid c1
 have HRd := Lib.hid (fun w1 : World => digit_any (d + 1) (by omega) w1)
 have hdz : (dgB (d + 1)).size = 1 := rfl
 have HDz := Lib.hid hdz
 obtain ⟨v, hv⟩ : ∃ v : Int, ((d + 1 : Nat) : Int) = v := ⟨_, rfl⟩
 rw [hv] at HRd
 have HV : Hid ((d : Int) + 1 = v) := by show _ = _; omega
 have q2 : v <= 9 := by omega
 have q3 : 0 <= v := by omega
 clear hv
 have HCut := Lib.hid (fun w1 : World => cut_plus (d + 1) w1)
 obtain ⟨hs5, hr5, hk5⟩ := hd_start w tailB
 have HD5 := Lib.hid hs5
 have HR5 := Lib.hid hr5
 have HK5 := Lib.hid hk5
 have q1 : (d : Int) <= 8 := by omega
 clear hS c0 c1 hsl2 hs5 hr5 hk5 hdz
 unfold inOf
 go_enter Tryz.func18, Tryz.ntmps18
 go_upto_region 2 with fail
 generalize (((((w.alloc (.cells #[.string tailB] 9)).alloc (.cells #[.string ⟨#[]⟩, .string ⟨#[]⟩, .int .i64 0] 31)).alloc (.cells #[.int .i64 10] 3)).alloc (.cells #[.bool false] 4)).alloc (.cells #[.bool false] 4)) = w5 at *
 obtain ⟨MB, hMB⟩ : ∃ x, w.heap.size = x := ⟨_, rfl⟩
 obtain ⟨RB, hRB⟩ : ∃ x, w.heap.size + 1 = x := ⟨_, rfl⟩
 obtain ⟨NB, hNB⟩ : ∃ x, w.heap.size + 1 + 1 = x := ⟨_, rfl⟩
 obtain ⟨FB, hFB⟩ : ∃ x, w.heap.size + 1 + 1 + 1 = x := ⟨_, rfl⟩
 obtain ⟨BB, hBB⟩ : ∃ x, w.heap.size + 1 + 1 + 1 + 1 = x := ⟨_, rfl⟩
 have HNum : Hid (w.heap.size <= NB ∧ w.heap.size <= FB ∧ w.heap.size <= BB ∧ w.heap.size <= RB ∧ ¬ MB = BB ∧ ¬ MB = FB ∧ ¬ MB = NB ∧ ¬ RB = BB ∧ ¬ RB = FB ∧ ¬ RB = NB ∧ ¬ NB = BB ∧ ¬ NB = FB ∧ ¬ FB = BB) := by show _ ∧ _; omega
 rw [hBB, hFB, hNB, hMB] at HD5
 rw [hRB] at HR5
 rw [hBB, hFB, hNB, hRB, hMB]
 clear hMB hRB hNB hFB hBB
 obtain ⟨n1, n2, n3, n3b, n4, n5, n6, n7, n8, n9, n10, n11, n12⟩ := HNum.out
 have a0 : w5.cell? ⟨g, o, none⟩ = some (.string (if b then ⟨#[45, 99]⟩ else ⟨#[45, 110]⟩)) := (HK5.out.cell (p := ⟨g, o, none⟩) hgl (fun h => h)).trans HC0.out
 have a1 : w5.cell? ⟨g, o + 1, none⟩ = some (.string (plB (d + 1))) := (HK5.out.cell (p := ⟨g, o + 1, none⟩) hgl (fun h => h)).trans HC1.out
 have N4 := Lib.hid n4
 have N5 := Lib.hid n5
 have N6 := Lib.hid n6
 have N7 := Lib.hid n7
 have N8 := Lib.hid n8
 have N9 := Lib.hid n9
 have N10 := Lib.hid n10
 have N11 := Lib.hid n11
 have N12 := Lib.hid n12
 have L1 := Lib.hid n1
 have L2 := Lib.hid n2
 have L3 := Lib.hid n3
 have L4 := Lib.hid n3b
 clear n1 n2 n3 n3b n4 n5 n6 n7 n8 n9 n10 n11 n12 HNum
 cases b
 ·have a0 : w5.cell? ⟨g, o, none⟩ = some (.string ⟨#[45, 110]⟩) := a0
  have kb := kset w5 ⟨BB, 0, none⟩ (.bool false)
  have hd6 : Hd (w5.setCell ⟨BB, 0, none⟩ (.bool false)) NB MB FB BB 10 tailB false false := ⟨HD5.out.n.keep kb N10.out, HD5.out.m.keep kb N4.out, HD5.out.r.keep kb N12.out, HD5.out.b.put 0 (.bool false)⟩
  have hr6 := HR5.out.keep kb N7.out
  have hk6 := HK5.out.step kb (fun x hx => .inr (by rw [hx]; exact L3.out))
  have kf := kset (w5.setCell ⟨BB, 0, none⟩ (.bool false)) ⟨FB, 0, none⟩ (.bool true)
  have hd7 : Hd ((w5.setCell ⟨BB, 0, none⟩ (.bool false)).setCell ⟨FB, 0, none⟩ (.bool true)) NB MB FB BB 10 tailB true false := ⟨hd6.n.keep kf N11.out, hd6.m.keep kf N5.out, hd6.r.put 0 (.bool true), hd6.b.keep kf (fun e => N12.out e.symm)⟩
  have hr7 := hr6.keep kf N8.out
  have hk7 := hk6.step kf (fun x hx => .inr (by rw [hx]; exact L2.out))
  have f0 := hd6.r.cell 0 _ rfl
  have ff := hd6.r.fz 0
  have fl := hd6.r.lt
  have m0 := hd6.m.cell 0 _ rfl
  have ml := hd6.m.lt
  have b0 := HD5.out.b.cell 0 _ rfl
  have bf := HD5.out.b.fz 0
  have bl := HD5.out.b.lt
  have HD7 := Lib.hid hd7
  have HR7 := Lib.hid hr7
  have HK7 := Lib.hid hk7
  have hdz := HDz.out
  generalize hxx : dgB (d + 1) = x at *
  clear hd6 hd7 hr6 hr7 hk6 hk7 kb kf hxx
  go_upto_region 10 with (first | (go_at_call 40; go_loud (refine (HRd.out _).mono ?_); rintro e w8 ⟨rfl, hk8⟩) | (go_at_call 39; go_loud (refine (HCut.out _).mono ?_); rintro e w6 ⟨rfl, rfl⟩))
  have hd8 := HD7.out.on hk8
  have hr8 := HR7.out.on hk8
  have hk9 := HK7.out.trans hk8
  have kn := kset w8 ⟨NB, 0, none⟩ (.int .i64 v)
  have hd9 : Hd ((w8.setCell ⟨NB, 0, none⟩ (.int .i64 v)).drew) NB MB FB BB v tailB true false := Hd.on ⟨hd8.n.put 0 (.int .i64 v), hd8.m.keep kn N6.out, hd8.r.keep kn (fun e => N11.out e.symm), hd8.b.keep kn (fun e => N10.out e.symm)⟩ ((Keeps.refl NoB _).drew)
  have hr9 := (hr8.keep kn N9.out).on ((Keeps.refl NoB (w8.setCell ⟨NB, 0, none⟩ (.int .i64 v))).drew)
  have hk10 := (hk9.step kn (fun x hx => .inr (by rw [hx]; exact L1.out))).drew
  have c0 := hd8.n.cell 0 _ rfl
  have cf := hd8.n.fz 0
  have cl := hd8.n.lt
  have e0 := hd9.m.cell 0 _ rfl
  have el := hd9.m.lt
  have HR9 := Lib.hid hr9
  have HK10 := Lib.hid hk10
  have HE := Lib.hid (fun (pp : Option Addr) (cc : Nat) => each_none tailB s _ NB MB FB BB pp cc (fun t => t = s.extract (plcF s d false) s.size) (fun w4 k4 => by (refine (ends_plus (n := d) (by rw [HV.out]; exact hd9.on k4) (by omega) (by omega)).mono ?_; rintro e w' ⟨h1, h2⟩; exact ⟨_, h1, rfl, h2⟩)))
  unfold inOf at HE
  have hsl2 := HS2.out
  clear hd8 hr8 hk9 kn hd9 hr9 hk10 m0 ml b0 bf bl a0 a1 f0 ff fl
  generalize subAt 1 (some ⟨g, o, none⟩) c 2 = pa at *
  go_region
  all_goals
   go_wp2_with (go_at_call 14; go_loud (refine (HE.out _ _).mono ?_); rintro e w11 ⟨t, rfl, hpt, hk11⟩; have hb := HR9.out.on hk11; have r0 := hb.cell 0 _ rfl; have r1 := hb.cell 1 _ rfl; have r2 := hb.cell 2 _ rfl; have rf := hb.fz; have rl := hb.lt)
   refine bodyPost_ret (v := .agg #[.string t, .string ⟨#[]⟩, .int .i64 0]) ?_ rfl ?_
   ·rw [results_cell_oneF rfl]; go_simp
   refine ⟨t, rfl, hpt, ?_⟩
   exact (((HK10.out.trans hk11).step (kset _ ⟨RB, 0, none⟩ _) (fun x hx => .inr (by rw [hx]; exact L4.out))).step (kset _ ⟨RB, 1, none⟩ _) (fun x hx => .inr (by rw [hx]; exact L4.out))).step (kset _ ⟨RB, 2, none⟩ _) (fun x hx => .inr (by rw [hx]; exact L4.out))
 ·have a0 : w5.cell? ⟨g, o, none⟩ = some (.string ⟨#[45, 99]⟩) := a0
  have kb := kset w5 ⟨BB, 0, none⟩ (.bool true)
  have hd6 : Hd (w5.setCell ⟨BB, 0, none⟩ (.bool true)) NB MB FB BB 10 tailB false true := ⟨HD5.out.n.keep kb N10.out, HD5.out.m.keep kb N4.out, HD5.out.r.keep kb N12.out, HD5.out.b.put 0 (.bool true)⟩
  have hr6 := HR5.out.keep kb N7.out
  have hk6 := HK5.out.step kb (fun x hx => .inr (by rw [hx]; exact L3.out))
  have kf := kset (w5.setCell ⟨BB, 0, none⟩ (.bool true)) ⟨FB, 0, none⟩ (.bool true)
  have hd7 : Hd ((w5.setCell ⟨BB, 0, none⟩ (.bool true)).setCell ⟨FB, 0, none⟩ (.bool true)) NB MB FB BB 10 tailB true true := ⟨hd6.n.keep kf N11.out, hd6.m.keep kf N5.out, hd6.r.put 0 (.bool true), hd6.b.keep kf (fun e => N12.out e.symm)⟩
  have hr7 := hr6.keep kf N8.out
  have hk7 := hk6.step kf (fun x hx => .inr (by rw [hx]; exact L2.out))
  have f0 := hd6.r.cell 0 _ rfl
  have ff := hd6.r.fz 0
  have fl := hd6.r.lt
  have m0 := hd6.m.cell 0 _ rfl
  have ml := hd6.m.lt
  have b0 := HD5.out.b.cell 0 _ rfl
  have bf := HD5.out.b.fz 0
  have bl := HD5.out.b.lt
  have HD7 := Lib.hid hd7
  have HR7 := Lib.hid hr7
  have HK7 := Lib.hid hk7
  have hdz := HDz.out
  generalize hxx : dgB (d + 1) = x at *
  clear hd6 hd7 hr6 hr7 hk6 hk7 kb kf hxx
  go_upto_region 10 with (first | (go_at_call 40; go_loud (refine (HRd.out _).mono ?_); rintro e w8 ⟨rfl, hk8⟩) | (go_at_call 39; go_loud (refine (HCut.out _).mono ?_); rintro e w6 ⟨rfl, rfl⟩))
  have hd8 := HD7.out.on hk8
  have hr8 := HR7.out.on hk8
  have hk9 := HK7.out.trans hk8
  have kn := kset w8 ⟨NB, 0, none⟩ (.int .i64 v)
  have hd9 : Hd ((w8.setCell ⟨NB, 0, none⟩ (.int .i64 v)).drew) NB MB FB BB v tailB true true := Hd.on ⟨hd8.n.put 0 (.int .i64 v), hd8.m.keep kn N6.out, hd8.r.keep kn (fun e => N11.out e.symm), hd8.b.keep kn (fun e => N10.out e.symm)⟩ ((Keeps.refl NoB _).drew)
  have hr9 := (hr8.keep kn N9.out).on ((Keeps.refl NoB (w8.setCell ⟨NB, 0, none⟩ (.int .i64 v))).drew)
  have hk10 := (hk9.step kn (fun x hx => .inr (by rw [hx]; exact L1.out))).drew
  have c0 := hd8.n.cell 0 _ rfl
  have cf := hd8.n.fz 0
  have cl := hd8.n.lt
  have e0 := hd9.m.cell 0 _ rfl
  have el := hd9.m.lt
  have HR9 := Lib.hid hr9
  have HK10 := Lib.hid hk10
  have HE := Lib.hid (fun (pp : Option Addr) (cc : Nat) => each_none tailB s _ NB MB FB BB pp cc (fun t => t = s.extract (plcF s d true) s.size) (fun w4 k4 => by (refine (ends_plus (n := d) (by rw [HV.out]; exact hd9.on k4) (by omega) (by omega)).mono ?_; rintro e w' ⟨h1, h2⟩; exact ⟨_, h1, rfl, h2⟩)))
  unfold inOf at HE
  have hsl2 := HS2.out
  clear hd8 hr8 hk9 kn hd9 hr9 hk10 m0 ml b0 bf bl a0 a1 f0 ff fl
  generalize subAt 1 (some ⟨g, o, none⟩) c 2 = pa at *
  go_region
  all_goals
   go_wp2_with (go_at_call 14; go_loud (refine (HE.out _ _).mono ?_); rintro e w11 ⟨t, rfl, hpt, hk11⟩; have hb := HR9.out.on hk11; have r0 := hb.cell 0 _ rfl; have r1 := hb.cell 1 _ rfl; have r2 := hb.cell 2 _ rfl; have rf := hb.fz; have rl := hb.lt)
   refine bodyPost_ret (v := .agg #[.string t, .string ⟨#[]⟩, .int .i64 0]) ?_ rfl ?_
   ·rw [results_cell_oneF rfl]; go_simp
   refine ⟨t, rfl, hpt, ?_⟩
   exact (((HK10.out.trans hk11).step (kset _ ⟨RB, 0, none⟩ _) (fun x hx => .inr (by rw [hx]; exact L4.out))).step (kset _ ⟨RB, 1, none⟩ _) (fun x hx => .inr (by rw [hx]; exact L4.out))).step (kset _ ⟨RB, 2, none⟩ _) (fun x hx => .inr (by rw [hx]; exact L4.out))
theorem run_P (d : Nat) (b : Bool) (s : ByteArray) (w : World) {S : Nat -> Prop} {p : Option Addr} {c : Nat} (hS : SlAt encStr S w p c [if b then ⟨#[45, 99]⟩ else ⟨#[45, 110]⟩, plB (d + 1)]) (hd : d <= 8) (hz : s.size <= 500) :
 Calls Tryz.prog 6 #[.string tailB, .slice p 2 c, inOf s] w fun e w' => ∃ t, e = .returned (.agg #[.string t, .string ⟨#[]⟩, .int .i64 0]) ∧ (t = s.extract (plcF s d b) s.size) ∧ Keeps NoB w w' := by
 have ka : Keeps NoB w (w.alloc (.cells #[.string ⟨#[]⟩, .string ⟨#[]⟩, .int .i64 0] 31)) := (Keeps.refl _ _).alloc _
 have HC := Lib.hid (ends_P d b s _ (hS.keepN ka) hd hz)
 clear hS ka
 go_enter Tryz.func6, Tryz.ntmps6
 go_wp2_with (go_at_call 18; go_loud (refine HC.out.mono ?_); rintro e w1 ⟨t, rfl, hpt, hk1⟩; have hb := Bk.new hk1; have r0 := hb.cell 0 _ rfl; have r1 := hb.cell 1 _ rfl; have r2 := hb.cell 2 _ rfl; have rf := hb.fz; have rl := hb.lt)
 refine bodyPost_ret (v := .agg #[.string t, .string ⟨#[]⟩, .int .i64 0]) ?_ rfl ?_
 ·rw [results_cell_oneF rfl]; go_simp
 refine ⟨t, rfl, hpt, ?_⟩
 have k := (((Keeps.refl NoB w).alloc (.cells #[.string ⟨#[]⟩, .string ⟨#[]⟩, .int .i64 0] 31)).trans hk1)
 exact ((k.step (kset _ ⟨w.heap.size, 0, none⟩ _) (fun g hg => .inr (Nat.le_of_eq hg.symm))).step (kset _ ⟨w.heap.size, 1, none⟩ _) (fun g hg => .inr (Nat.le_of_eq hg.symm))).step (kset _ ⟨w.heap.size, 2, none⟩ _) (fun g hg => .inr (Nat.le_of_eq hg.symm))
theorem ends_T (d : Nat) (b : Bool) (s : ByteArray) (w : World) {S : Nat -> Prop} {p : Option Addr} {c : Nat} (hS : SlAt encStr S w p c [if b then ⟨#[45, 99]⟩ else ⟨#[45, 110]⟩, dgB d]) (hd : d <= 8) (hz : s.size <= 500) :
 Calls Tryz.prog 18 #[.string tailB, .slice p 2 c, inOf s] w fun e w' => ∃ t, e = .returned (.agg #[.string t, .string ⟨#[]⟩, .int .i64 0]) ∧ (∃ r : Nat, r <= s.size ∧ t = s.extract r s.size) ∧ Keeps NoB w w' := by
 obtain ⟨g, o, rfl, _, hgl, c0⟩ := hS.str (i := 0) rfl
 obtain ⟨g1, o1, e1, _, _, c1⟩ := hS.str (i := 1) (x := dgB d) rfl
 cases e1
 have hcp := hS.cap
 have hmx := hS.max
 unfold maxLen at hmx
 simp only [List.length_cons, List.length_nil, Nat.zero_add] at hcp
 simp only [Nat.add_zero] at c0
 have hsl2 : ∀ wx : World, (Instr.slice 29 (.slice (some ⟨g, o, none⟩) 2 c) (some (.int .i64 2)) none none).run Tryz.prog wx = .ok (.slice (subAt 1 (some ⟨g, o, none⟩) c 2) 0 (c - 2)) wx := fun wx => run_slice_l (P := Tryz.prog) 29 9 1 Tryz.underlying29 (by kernel_rfl) (some ⟨g, o, none⟩) 2 c 2 (by omega) wx (by omega)
 have HS2 := Lib.hid hsl2
 have HC0 := Lib.hid c0
 have HC1 := Lib.hid c1
 have HRd := Lib.hid (fun w1 : World => digit_any d (by omega) w1)
 have hdz : (dgB d).size = 1 := rfl
 have HDz := Lib.hid hdz
 have HCut := Lib.hid (fun w1 : World => cut_dig d (by omega) w1)
 obtain ⟨hs5, hr5, hk5⟩ := hd_start w tailB
 have HD5 := Lib.hid hs5
 have HR5 := Lib.hid hr5
 have HK5 := Lib.hid hk5
 have q1 : (d : Int) <= 8 := by omega
 clear hS c0 c1 hsl2 hs5 hr5 hk5 hdz
 unfold inOf
 go_enter Tryz.func18, Tryz.ntmps18
 go_upto_region 2 with fail
 generalize (((((w.alloc (.cells #[.string tailB] 9)).alloc (.cells #[.string ⟨#[]⟩, .string ⟨#[]⟩, .int .i64 0] 31)).alloc (.cells #[.int .i64 10] 3)).alloc (.cells #[.bool false] 4)).alloc (.cells #[.bool false] 4)) = w5 at *
 obtain ⟨MB, hMB⟩ : ∃ x, w.heap.size = x := ⟨_, rfl⟩
 obtain ⟨RB, hRB⟩ : ∃ x, w.heap.size + 1 = x := ⟨_, rfl⟩
 obtain ⟨NB, hNB⟩ : ∃ x, w.heap.size + 1 + 1 = x := ⟨_, rfl⟩
 obtain ⟨FB, hFB⟩ : ∃ x, w.heap.size + 1 + 1 + 1 = x := ⟨_, rfl⟩
 obtain ⟨BB, hBB⟩ : ∃ x, w.heap.size + 1 + 1 + 1 + 1 = x := ⟨_, rfl⟩
 have HNum : Hid (w.heap.size <= NB ∧ w.heap.size <= FB ∧ w.heap.size <= BB ∧ w.heap.size <= RB ∧ ¬ MB = BB ∧ ¬ MB = FB ∧ ¬ MB = NB ∧ ¬ RB = BB ∧ ¬ RB = FB ∧ ¬ RB = NB ∧ ¬ NB = BB ∧ ¬ NB = FB ∧ ¬ FB = BB) := by show _ ∧ _; omega
 rw [hBB, hFB, hNB, hMB] at HD5
 rw [hRB] at HR5
 rw [hBB, hFB, hNB, hRB, hMB]
 clear hMB hRB hNB hFB hBB
 obtain ⟨n1, n2, n3, n3b, n4, n5, n6, n7, n8, n9, n10, n11, n12⟩ := HNum.out
 have a0 : w5.cell? ⟨g, o, none⟩ = some (.string (if b then ⟨#[45, 99]⟩ else ⟨#[45, 110]⟩)) := (HK5.out.cell (p := ⟨g, o, none⟩) hgl (fun h => h)).trans HC0.out
 have a1 : w5.cell? ⟨g, o + 1, none⟩ = some (.string (dgB d)) := (HK5.out.cell (p := ⟨g, o + 1, none⟩) hgl (fun h => h)).trans HC1.out
 have N4 := Lib.hid n4
 have N5 := Lib.hid n5
 have N6 := Lib.hid n6
 have N7 := Lib.hid n7
 have N8 := Lib.hid n8
 have N9 := Lib.hid n9
 have N10 := Lib.hid n10
 have N11 := Lib.hid n11
 have N12 := Lib.hid n12
 have L1 := Lib.hid n1
 have L2 := Lib.hid n2
 have L3 := Lib.hid n3
 have L4 := Lib.hid n3b
 clear n1 n2 n3 n3b n4 n5 n6 n7 n8 n9 n10 n11 n12 HNum
 cases b
 ·have a0 : w5.cell? ⟨g, o, none⟩ = some (.string ⟨#[45, 110]⟩) := a0
  have kb := kset w5 ⟨BB, 0, none⟩ (.bool false)
  have hd6 : Hd (w5.setCell ⟨BB, 0, none⟩ (.bool false)) NB MB FB BB 10 tailB false false := ⟨HD5.out.n.keep kb N10.out, HD5.out.m.keep kb N4.out, HD5.out.r.keep kb N12.out, HD5.out.b.put 0 (.bool false)⟩
  have hr6 := HR5.out.keep kb N7.out
  have hk6 := HK5.out.step kb (fun x hx => .inr (by rw [hx]; exact L3.out))
  have kf := kset (w5.setCell ⟨BB, 0, none⟩ (.bool false)) ⟨FB, 0, none⟩ (.bool false)
  have hd7 : Hd ((w5.setCell ⟨BB, 0, none⟩ (.bool false)).setCell ⟨FB, 0, none⟩ (.bool false)) NB MB FB BB 10 tailB false false := ⟨hd6.n.keep kf N11.out, hd6.m.keep kf N5.out, hd6.r.put 0 (.bool false), hd6.b.keep kf (fun e => N12.out e.symm)⟩
  have hr7 := hr6.keep kf N8.out
  have hk7 := hk6.step kf (fun x hx => .inr (by rw [hx]; exact L2.out))
  have f0 := hd6.r.cell 0 _ rfl
  have ff := hd6.r.fz 0
  have fl := hd6.r.lt
  have m0 := hd6.m.cell 0 _ rfl
  have ml := hd6.m.lt
  have b0 := HD5.out.b.cell 0 _ rfl
  have bf := HD5.out.b.fz 0
  have bl := HD5.out.b.lt
  have HD7 := Lib.hid hd7
  have HR7 := Lib.hid hr7
  have HK7 := Lib.hid hk7
  have hdz := HDz.out
  generalize hxx : dgB d = x at *
  clear hd6 hd7 hr6 hr7 hk6 hk7 kb kf hxx
  go_upto_region 10 with (first | (go_at_call 40; go_loud (refine (HRd.out _).mono ?_); rintro e w8 ⟨rfl, hk8⟩) | (go_at_call 39; go_loud (refine (HCut.out _).mono ?_); rintro e w6 ⟨rfl, rfl⟩))
  have hd8 := HD7.out.on hk8
  have hr8 := HR7.out.on hk8
  have hk9 := HK7.out.trans hk8
  have kn := kset w8 ⟨NB, 0, none⟩ (.int .i64 (d : Int))
  have hd9 : Hd ((w8.setCell ⟨NB, 0, none⟩ (.int .i64 (d : Int))).drew) NB MB FB BB (d : Int) tailB false false := Hd.on ⟨hd8.n.put 0 (.int .i64 (d : Int)), hd8.m.keep kn N6.out, hd8.r.keep kn (fun e => N11.out e.symm), hd8.b.keep kn (fun e => N10.out e.symm)⟩ ((Keeps.refl NoB _).drew)
  have hr9 := (hr8.keep kn N9.out).on ((Keeps.refl NoB (w8.setCell ⟨NB, 0, none⟩ (.int .i64 (d : Int)))).drew)
  have hk10 := (hk9.step kn (fun x hx => .inr (by rw [hx]; exact L1.out))).drew
  have c0 := hd8.n.cell 0 _ rfl
  have cf := hd8.n.fz 0
  have cl := hd8.n.lt
  have e0 := hd9.m.cell 0 _ rfl
  have el := hd9.m.lt
  have HR9 := Lib.hid hr9
  have HK10 := Lib.hid hk10
  have HE := Lib.hid (fun (pp : Option Addr) (cc : Nat) => each_none tailB s _ NB MB FB BB pp cc (fun t => ∃ r : Nat, r <= s.size ∧ t = s.extract r s.size) (fun w4 k4 => by (refine (ends_tail (hd9.on k4) (by omega) (by omega)).mono ?_; rintro e w' ⟨r, h1, h2, h3⟩; exact ⟨_, h1, ⟨r, h2, rfl⟩, h3⟩)))
  unfold inOf at HE
  have hsl2 := HS2.out
  clear hd8 hr8 hk9 kn hd9 hr9 hk10 m0 ml b0 bf bl a0 a1 f0 ff fl
  generalize subAt 1 (some ⟨g, o, none⟩) c 2 = pa at *
  go_region
  all_goals
   go_wp2_with (go_at_call 14; go_loud (refine (HE.out _ _).mono ?_); rintro e w11 ⟨t, rfl, hpt, hk11⟩; have hb := HR9.out.on hk11; have r0 := hb.cell 0 _ rfl; have r1 := hb.cell 1 _ rfl; have r2 := hb.cell 2 _ rfl; have rf := hb.fz; have rl := hb.lt)
   refine bodyPost_ret (v := .agg #[.string t, .string ⟨#[]⟩, .int .i64 0]) ?_ rfl ?_
   ·rw [results_cell_oneF rfl]; go_simp
   refine ⟨t, rfl, hpt, ?_⟩
   exact (((HK10.out.trans hk11).step (kset _ ⟨RB, 0, none⟩ _) (fun x hx => .inr (by rw [hx]; exact L4.out))).step (kset _ ⟨RB, 1, none⟩ _) (fun x hx => .inr (by rw [hx]; exact L4.out))).step (kset _ ⟨RB, 2, none⟩ _) (fun x hx => .inr (by rw [hx]; exact L4.out))
 ·have a0 : w5.cell? ⟨g, o, none⟩ = some (.string ⟨#[45, 99]⟩) := a0
  have kb := kset w5 ⟨BB, 0, none⟩ (.bool true)
  have hd6 : Hd (w5.setCell ⟨BB, 0, none⟩ (.bool true)) NB MB FB BB 10 tailB false true := ⟨HD5.out.n.keep kb N10.out, HD5.out.m.keep kb N4.out, HD5.out.r.keep kb N12.out, HD5.out.b.put 0 (.bool true)⟩
  have hr6 := HR5.out.keep kb N7.out
  have hk6 := HK5.out.step kb (fun x hx => .inr (by rw [hx]; exact L3.out))
  have kf := kset (w5.setCell ⟨BB, 0, none⟩ (.bool true)) ⟨FB, 0, none⟩ (.bool false)
  have hd7 : Hd ((w5.setCell ⟨BB, 0, none⟩ (.bool true)).setCell ⟨FB, 0, none⟩ (.bool false)) NB MB FB BB 10 tailB false true := ⟨hd6.n.keep kf N11.out, hd6.m.keep kf N5.out, hd6.r.put 0 (.bool false), hd6.b.keep kf (fun e => N12.out e.symm)⟩
  have hr7 := hr6.keep kf N8.out
  have hk7 := hk6.step kf (fun x hx => .inr (by rw [hx]; exact L2.out))
  have f0 := hd6.r.cell 0 _ rfl
  have ff := hd6.r.fz 0
  have fl := hd6.r.lt
  have m0 := hd6.m.cell 0 _ rfl
  have ml := hd6.m.lt
  have b0 := HD5.out.b.cell 0 _ rfl
  have bf := HD5.out.b.fz 0
  have bl := HD5.out.b.lt
  have HD7 := Lib.hid hd7
  have HR7 := Lib.hid hr7
  have HK7 := Lib.hid hk7
  have hdz := HDz.out
  generalize hxx : dgB d = x at *
  clear hd6 hd7 hr6 hr7 hk6 hk7 kb kf hxx
  go_upto_region 10 with (first | (go_at_call 40; go_loud (refine (HRd.out _).mono ?_); rintro e w8 ⟨rfl, hk8⟩) | (go_at_call 39; go_loud (refine (HCut.out _).mono ?_); rintro e w6 ⟨rfl, rfl⟩))
  have hd8 := HD7.out.on hk8
  have hr8 := HR7.out.on hk8
  have hk9 := HK7.out.trans hk8
  have kn := kset w8 ⟨NB, 0, none⟩ (.int .i64 (d : Int))
  have hd9 : Hd ((w8.setCell ⟨NB, 0, none⟩ (.int .i64 (d : Int))).drew) NB MB FB BB (d : Int) tailB false true := Hd.on ⟨hd8.n.put 0 (.int .i64 (d : Int)), hd8.m.keep kn N6.out, hd8.r.keep kn (fun e => N11.out e.symm), hd8.b.keep kn (fun e => N10.out e.symm)⟩ ((Keeps.refl NoB _).drew)
  have hr9 := (hr8.keep kn N9.out).on ((Keeps.refl NoB (w8.setCell ⟨NB, 0, none⟩ (.int .i64 (d : Int)))).drew)
  have hk10 := (hk9.step kn (fun x hx => .inr (by rw [hx]; exact L1.out))).drew
  have c0 := hd8.n.cell 0 _ rfl
  have cf := hd8.n.fz 0
  have cl := hd8.n.lt
  have e0 := hd9.m.cell 0 _ rfl
  have el := hd9.m.lt
  have HR9 := Lib.hid hr9
  have HK10 := Lib.hid hk10
  have HE := Lib.hid (fun (pp : Option Addr) (cc : Nat) => each_none tailB s _ NB MB FB BB pp cc (fun t => ∃ r : Nat, r <= s.size ∧ t = s.extract r s.size) (fun w4 k4 => by (refine (ends_tail (hd9.on k4) (by omega) (by omega)).mono ?_; rintro e w' ⟨r, h1, h2, h3⟩; exact ⟨_, h1, ⟨r, h2, rfl⟩, h3⟩)))
  unfold inOf at HE
  have hsl2 := HS2.out
  clear hd8 hr8 hk9 kn hd9 hr9 hk10 m0 ml b0 bf bl a0 a1 f0 ff fl
  generalize subAt 1 (some ⟨g, o, none⟩) c 2 = pa at *
  go_region
  all_goals
   go_wp2_with (go_at_call 14; go_loud (refine (HE.out _ _).mono ?_); rintro e w11 ⟨t, rfl, hpt, hk11⟩; have hb := HR9.out.on hk11; have r0 := hb.cell 0 _ rfl; have r1 := hb.cell 1 _ rfl; have r2 := hb.cell 2 _ rfl; have rf := hb.fz; have rl := hb.lt)
   refine bodyPost_ret (v := .agg #[.string t, .string ⟨#[]⟩, .int .i64 0]) ?_ rfl ?_
   ·rw [results_cell_oneF rfl]; go_simp
   refine ⟨t, rfl, hpt, ?_⟩
   exact (((HK10.out.trans hk11).step (kset _ ⟨RB, 0, none⟩ _) (fun x hx => .inr (by rw [hx]; exact L4.out))).step (kset _ ⟨RB, 1, none⟩ _) (fun x hx => .inr (by rw [hx]; exact L4.out))).step (kset _ ⟨RB, 2, none⟩ _) (fun x hx => .inr (by rw [hx]; exact L4.out))
theorem run_T (d : Nat) (b : Bool) (s : ByteArray) (w : World) {S : Nat -> Prop} {p : Option Addr} {c : Nat} (hS : SlAt encStr S w p c [if b then ⟨#[45, 99]⟩ else ⟨#[45, 110]⟩, dgB d]) (hd : d <= 8) (hz : s.size <= 500) :
 Calls Tryz.prog 6 #[.string tailB, .slice p 2 c, inOf s] w fun e w' => ∃ t, e = .returned (.agg #[.string t, .string ⟨#[]⟩, .int .i64 0]) ∧ (∃ r : Nat, r <= s.size ∧ t = s.extract r s.size) ∧ Keeps NoB w w' := by
 have ka : Keeps NoB w (w.alloc (.cells #[.string ⟨#[]⟩, .string ⟨#[]⟩, .int .i64 0] 31)) := (Keeps.refl _ _).alloc _
 have HC := Lib.hid (ends_T d b s _ (hS.keepN ka) hd hz)
 clear hS ka
 go_enter Tryz.func6, Tryz.ntmps6
 go_wp2_with (go_at_call 18; go_loud (refine HC.out.mono ?_); rintro e w1 ⟨t, rfl, hpt, hk1⟩; have hb := Bk.new hk1; have r0 := hb.cell 0 _ rfl; have r1 := hb.cell 1 _ rfl; have r2 := hb.cell 2 _ rfl; have rf := hb.fz; have rl := hb.lt)
 refine bodyPost_ret (v := .agg #[.string t, .string ⟨#[]⟩, .int .i64 0]) ?_ rfl ?_
 ·rw [results_cell_oneF rfl]; go_simp
 refine ⟨t, rfl, hpt, ?_⟩
 have k := (((Keeps.refl NoB w).alloc (.cells #[.string ⟨#[]⟩, .string ⟨#[]⟩, .int .i64 0] 31)).trans hk1)
 exact ((k.step (kset _ ⟨w.heap.size, 0, none⟩ _) (fun g hg => .inr (Nat.le_of_eq hg.symm))).step (kset _ ⟨w.heap.size, 1, none⟩ _) (fun g hg => .inr (Nat.le_of_eq hg.symm))).step (kset _ ⟨w.heap.size, 2, none⟩ _) (fun g hg => .inr (Nat.le_of_eq hg.symm))
theorem wc_ex (w : World) (L : Nat) {S : Nat -> Prop} {p : Option Addr} {c : Nat} (hS : SlAt encStr S w p c [⟨#[45, 108]⟩, ⟨#[97]⟩]) (hE : Ex22 w L) (ht : As22 w) :
 Calls Tryz.prog 6 #[.string ⟨#[119, 99]⟩, .slice p 2 c, inEx L] w fun e w' => e = .returned (.agg #[.string ⟨#[50, 32, 97, 10]⟩, .string ⟨#[]⟩, .int .i64 0]) ∧ Keeps NoB w w' := by
 have ka : Keeps NoB w (w.alloc (.cells #[.string ⟨#[]⟩, .string ⟨#[]⟩, .int .i64 0] 31)) := (Keeps.refl _ _).alloc _
 have HC := Lib.hid (count_ex _ L (hS.keepN ka) (Bk.on hE ka) (ht.on ka))
 clear hS hE ht ka
 go_enter Tryz.func6, Tryz.ntmps6
 go_wp2_with (go_at_call 17; go_loud (refine HC.out.mono ?_); rintro e w1 ⟨rfl, hk1⟩; have hb := Bk.new hk1; have r0 := hb.cell 0 _ rfl; have r1 := hb.cell 1 _ rfl; have r2 := hb.cell 2 _ rfl; have rf := hb.fz; have rl := hb.lt)
 refine bodyPost_ret (v := .agg #[.string ⟨#[50, 32, 97, 10]⟩, .string ⟨#[]⟩, .int .i64 0]) ?_ rfl ?_
 ·rw [results_cell_oneF rfl]; go_simp
 refine ⟨rfl, ?_⟩
 have k := (((Keeps.refl NoB w).alloc (.cells #[.string ⟨#[]⟩, .string ⟨#[]⟩, .int .i64 0] 31)).trans hk1)
 exact ((k.step (kset _ ⟨w.heap.size, 0, none⟩ _) (fun g hg => .inr (Nat.le_of_eq hg.symm))).step (kset _ ⟨w.heap.size, 1, none⟩ _) (fun g hg => .inr (Nat.le_of_eq hg.symm))).step (kset _ ⟨w.heap.size, 2, none⟩ _) (fun g hg => .inr (Nat.le_of_eq hg.symm))
theorem anchor22_any (w : World) (ht : As22 w) : Calls Tryz.prog 5 #[] w fun e w' => e = .returned (.bool true) ∧ Keeps NoB w w' := by
 have k1 : Keeps NoB w (w.alloc (.cells #[.string ⟨#[45, 108]⟩, .string ⟨#[97]⟩] 9)) := (Keeps.refl _ _).alloc _
 have k2 : Keeps NoB (w.alloc (.cells #[.string ⟨#[45, 108]⟩, .string ⟨#[97]⟩] 9)) ((w.alloc (.cells #[.string ⟨#[45, 108]⟩, .string ⟨#[97]⟩] 9)).alloc (.cells #[.string ⟨#[97]⟩, .string xyB, .int .i64 0] 36)) := (Keeps.refl _ _).alloc _
 have hS := ((own_lit (E := encStr) (e := 9) (w := w) (S := fun _ => True) [⟨#[45, 108]⟩, ⟨#[97]⟩] #[.string ⟨#[45, 108]⟩, .string ⟨#[97]⟩] rfl 2 rfl trivial (by decide)).at).keepN k2
 have hE := Bk.new (Keeps.refl NoB ((w.alloc (.cells #[.string ⟨#[45, 108]⟩, .string ⟨#[97]⟩] 9)).alloc (.cells #[.string ⟨#[97]⟩, .string xyB, .int .i64 0] 36)))
 rw [show (w.alloc (.cells #[.string ⟨#[45, 108]⟩, .string ⟨#[97]⟩] 9)).heap.size = w.heap.size + 1 by simp] at hE
 have HR := Lib.hid (wc_ex _ (w.heap.size + 1) hS hE (ht.on (k1.trans k2)))
 have HK := Lib.hid (k1.trans k2)
 unfold inEx at HR
 clear hS hE ht k1 k2
 go_enter Tryz.func5, Tryz.ntmps5
 go_wp2_with (go_at_call 6; go_loud (refine HR.out.mono ?_); rintro e w1 ⟨rfl, hk1⟩)
 go_ret
 exact ⟨ret_bool (by simp), (HK.out.trans hk1).alloc _⟩
set_option maxHeartbeats 16000000
theorem conv_1 (W : World) (g : Nat) (d : Nat) (hd : d <= 9) (h0 : W.cell? ⟨g, 0, none⟩ = some (.int .u8 (48 + (d : Int)))) : (convert 28 9 (.slice (some ⟨g, 0, none⟩) 1 1)).run Tryz.prog W = .ok (.string (dgB d)) W :=
 run_convert_bytes_back (P := Tryz.prog) W 28 9 5 ⟨g, 0, none⟩ 1 [(48 + d).toUInt8] Tryz.underlying28 Tryz.underlying5 Tryz.underlying9 (fun j hj => by
  have hj0 : j = 0 := by simp at hj; omega
  subst hj0
  rw [add_lit, Nat.zero_add, h0]
  have : ((48 + d).toUInt8.toNat : Int) = 48 + d := by
   have : (48 + d).toUInt8.toNat = (48 + d) % 256 := rfl
   rw [this]; omega
  simp [this]
  omega)
theorem conv_2 (W : World) (g : Nat) (d : Nat) (hd : d <= 9) (h0 : W.cell? ⟨g, 0, none⟩ = some (.int .u8 43)) (h1 : W.cell? ⟨g, 1, none⟩ = some (.int .u8 (48 + (d : Int)))) : (convert 28 9 (.slice (some ⟨g, 0, none⟩) 2 2)).run Tryz.prog W = .ok (.string (plB d)) W :=
 run_convert_bytes_back (P := Tryz.prog) W 28 9 5 ⟨g, 0, none⟩ 2 [43, (48 + d).toUInt8] Tryz.underlying28 Tryz.underlying5 Tryz.underlying9 (fun j hj => by
  have hn : ((48 + d).toUInt8.toNat : Int) = 48 + d := by
   have : (48 + d).toUInt8.toNat = (48 + d) % 256 := rfl
   rw [this]; omega
  rw [add_lit, Nat.zero_add]
  match j, hj with
  | 0, _ => rw [h0]; rfl
  | 1, _ =>
    rw [h1]
    simp [hn]
    omega
  | j + 2, hj => exact absurd hj (by simp))
theorem row_2 (W : World) (g : Nat) (a b : ByteArray) (h0 : W.cell? ⟨g, 0, none⟩ = some (.string a)) (h1 : W.cell? ⟨g, 1, none⟩ = some (.string b)) : SlAt encStr (fun _ => True) W (some ⟨g, 0, none⟩) 2 [a, b] :=
 ⟨by simp, by decide, (fun h => by cases h), (fun _ x hx => by cases hx; rfl), fun _ => ⟨g, 0, rfl, trivial, lt_of_cell h0, fun j hj => by
   have hj2 : j < 2 := by simpa [encStr] using hj
   match j, hj2 with
   | 0, _ => rw [Nat.zero_add, h0]; rfl
   | 1, _ => rw [Nat.zero_add, h1]; rfl⟩⟩
theorem bk_of {W : World} {g : Nat} (h0 : W.cell? ⟨g, 0, none⟩ = some (.string ⟨#[]⟩)) (h1 : W.cell? ⟨g, 1, none⟩ = some (.string ⟨#[]⟩)) (h2 : W.cell? ⟨g, 2, none⟩ = some (.int .i64 0)) (hf : ∀ j, W.frozen? ⟨g, j, none⟩ = false) : Bk W g res0 :=
 ⟨lt_of_cell h0, (fun i v hv => match i, hv with
   | 0, hv => by cases hv; exact h0
   | 1, hv => by cases hv; exact h1
   | 2, hv => by cases hv; exact h2
   | _ + 3, hv => by cases hv), hf⟩
theorem filterCuts_any (s : ByteArray) (x : Int) (W : World) (ht : As22 W) : Calls Tryz.prog 3 #[.string s, .int .i64 x] W fun e w' => e = .returned (.bool true) ∧ Keeps NoB W w' := by
 have HA := Lib.hid (anchor22_any W ht)
 have hc : 500 < s.size ∨ (s.size <= 500 ∧ x < 0) ∨ (s.size <= 500 ∧ ¬ x < 0 ∧ 8 < x) ∨ ∃ d : Nat, s.size <= 500 ∧ d <= 8 ∧ x = d := by
  rcases Nat.lt_or_ge 500 s.size with h | h
  ·exact .inl h
  ·rcases Int.lt_or_le x 0 with h2 | h2
   ·exact .inr (.inl ⟨h, h2⟩)
   ·rcases Int.lt_or_le 8 x with h3 | h3
    ·exact .inr (.inr (.inl ⟨h, by omega, h3⟩))
    ·exact .inr (.inr (.inr ⟨x.toNat, h, by omega, by omega⟩))
 rcases hc with z | ⟨z, z2⟩ | ⟨z, z2, z3⟩ | ⟨d, hs, hd, rfl⟩
 ·have q : (500 : Int) < s.size := by omega
  go_enter Tryz.func3, Tryz.ntmps3
  go_wp2_with (go_at_call 5; go_loud (refine HA.out.mono ?_); rintro e w1 ⟨rfl, hk1⟩)
  go_ret
  exact ⟨rfl, hk1⟩
 ·go_enter Tryz.func3, Tryz.ntmps3
  go_wp2_with (go_at_call 5; go_loud (refine HA.out.mono ?_); rintro e w1 ⟨rfl, hk1⟩)
  go_ret
  exact ⟨rfl, hk1⟩
 ·go_enter Tryz.func3, Tryz.ntmps3
  go_wp2_with (go_at_call 5; go_loud (refine HA.out.mono ?_); rintro e w1 ⟨rfl, hk1⟩)
  go_ret
  exact ⟨rfl, hk1⟩
 have q1 : (d : Int) <= 8 := by omega
 have HD := Lib.hid hd
 have HSz := Lib.hid hs
 go_enter Tryz.func3, Tryz.ntmps3
 go_upto_region 6 with (go_at_call 5; go_loud (refine HA.out.mono ?_); rintro e w1 ⟨rfl, hk1⟩)
 have HX := Lib.hid (Bk.new (Keeps.refl NoB (w1.alloc (.cells #[.string s, .int .i64 0, .slice none 0 0] 27))))
 have HKx := Lib.hid (hk1.alloc (.cells #[.string s, .int .i64 0, .slice none 0 0] 27))
 clear HA hk1
 generalize w1.alloc (.cells #[.string s, .int .i64 0, .slice none 0 0] 27) = w2 at *
 generalize w1.heap.size = XB at *
 have hc1 := fun (W : World) (g : Nat) (h0 : W.cell? ⟨g, 0, none⟩ = some (.int .u8 (48 + (d : Int)))) => conv_1 W g d (by omega) h0
 have hc2 := fun (W : World) (g : Nat) (h0 : W.cell? ⟨g, 0, none⟩ = some (.int .u8 43)) (h1 : W.cell? ⟨g, 1, none⟩ = some (.int .u8 (49 + (d : Int)))) => conv_2 W g (d + 1) (by omega) h0 (by rw [h1]; congr 2; omega)
 go_cut [6, 7] from 29 to 38 (fun k n wx => ∃ wn : World, wn = wx ∧ k = .string (dgB d) ∧ n = .string (plB (d + 1)) ∧ Keeps NoB w2 wx)
 case first =>
  go_region
  all_goals (go_wp2_with fail; go_meet; exact ⟨_, rfl, rfl, rfl, by (repeat (first | with_reducible assumption | (with_reducible exact Keeps.refl _ _) | (with_reducible refine Keeps.drew ?_) | (with_reducible refine Keeps.drewN ?_ _) | (with_reducible refine Keeps.alloc ?_ _) | (with_reducible refine Keeps.setCell ?_ (by first | exact Or.inr (Nat.le_refl _) | exact Or.inr (by first | omega | (simp; done) | (simp; omega))) _)))⟩)
 case rest =>
  obtain ⟨w3, rfl, rfl, rfl, hk3⟩ := hcut
  have HX3 := Lib.hid (HX.out.on hk3)
  have HK3 := Lib.hid (HKx.out.trans hk3)
  have HLt := Lib.hid ((own_lit (E := encStr) (e := 9) (w := w3) (S := fun _ => True) [⟨#[45, 110]⟩, ⟨#[45, 99]⟩] #[.string ⟨#[45, 110]⟩, .string ⟨#[45, 99]⟩] rfl 2 rfl trivial (by decide)).at)
  have HKa := Lib.hid ((Keeps.refl NoB w3).alloc (.cells #[.string ⟨#[45, 110]⟩, .string ⟨#[45, 99]⟩] 9))
  have HXl := Lib.hid (HX3.out.on HKa.out)
  have HKl := Lib.hid (HK3.out.trans HKa.out)
  clear HX HKx hc1 hc2 hk3 HX3 HK3 HKa
  go_wp2_with fail
  generalize w3.alloc (.cells #[.string ⟨#[45, 110]⟩, .string ⟨#[45, 99]⟩] 9) = wl at *
  generalize w3.heap.size = LB at *
  obtain ⟨kk, hkk⟩ : ∃ kk, dgB d = kk := ⟨_, rfl⟩
  obtain ⟨nn, hnn⟩ : ∃ nn, plB (d + 1) = nn := ⟨_, rfl⟩
  rw [hkk, hnn]
  have HKK := Lib.hid hkk
  have HNN := Lib.hid hnn
  clear hkk hnn
  go_loopw [41] (fun i wr => ∃ k : Nat, k <= 2 ∧ i = .int .i64 k ∧ Keeps NoB wl wr) (fun i _ => 3 - (intOf i).toNat)
  case atStart => exact ⟨0, by omega, rfl, Keeps.refl _ _⟩
  case round =>
   obtain ⟨k, hk, rfl, hkr⟩ := hrel
   have HKr := Lib.hid hkr
   clear hkr
   by_cases hlt : k < 2
   ·obtain ⟨b, hb⟩ : ∃ b : Bool, ([⟨#[45, 110]⟩, ⟨#[45, 99]⟩] : List ByteArray)[k]? = some (if b then ⟨#[45, 99]⟩ else ⟨#[45, 110]⟩) := by
     rcases (show k = 0 ∨ k = 1 by omega) with rfl | rfl
     ·exact ⟨false, rfl⟩
     ·exact ⟨true, rfl⟩
    obtain ⟨g, off, hg, _, _, c0⟩ := (HLt.out.keepN HKr.out).str hb
    cases hg
    simp only [Nat.zero_add] at c0
    obtain ⟨kd, hkd⟩ : ∃ kd : ByteArray, (if b then (⟨#[45, 99]⟩ : ByteArray) else ⟨#[45, 110]⟩) = kd := ⟨_, rfl⟩
    rw [hkd] at c0
    have HRH : Hid (∀ (wx : World) (g : Nat), wx.cell? ⟨g, 0, none⟩ = some (.string kd) -> wx.cell? ⟨g, 1, none⟩ = some (.string kk) -> Calls Tryz.prog 6 #[.string headB, .slice (some ⟨g, 0, none⟩) 2 2, inOf s] wx fun e w' => ∃ t, e = .returned (.agg #[.string t, .string ⟨#[]⟩, .int .i64 0]) ∧ (t = s.extract 0 (plcF s d b)) ∧ Keeps NoB wx w') := Lib.hid fun wx g h0 h1 => run_H d b s wx (by rw [hkd, HKK.out]; exact row_2 wx g kd kk h0 h1) HD.out HSz.out
    have HRP : Hid (∀ (wx : World) (g : Nat), wx.cell? ⟨g, 0, none⟩ = some (.string kd) -> wx.cell? ⟨g, 1, none⟩ = some (.string nn) -> Calls Tryz.prog 6 #[.string tailB, .slice (some ⟨g, 0, none⟩) 2 2, inOf s] wx fun e w' => ∃ t, e = .returned (.agg #[.string t, .string ⟨#[]⟩, .int .i64 0]) ∧ (t = s.extract (plcF s d b) s.size) ∧ Keeps NoB wx w') := Lib.hid fun wx g h0 h1 => run_P d b s wx (by rw [hkd, HNN.out]; exact row_2 wx g kd nn h0 h1) HD.out HSz.out
    have HRT : Hid (∀ (wx : World) (g : Nat), wx.cell? ⟨g, 0, none⟩ = some (.string kd) -> wx.cell? ⟨g, 1, none⟩ = some (.string kk) -> Calls Tryz.prog 6 #[.string tailB, .slice (some ⟨g, 0, none⟩) 2 2, inOf s] wx fun e w' => ∃ t, e = .returned (.agg #[.string t, .string ⟨#[]⟩, .int .i64 0]) ∧ (∃ r : Nat, r <= s.size ∧ t = s.extract r s.size) ∧ Keeps NoB wx w') := Lib.hid fun wx g h0 h1 => run_T d b s wx (by rw [hkd, HKK.out]; exact row_2 wx g kd kk h0 h1) HD.out HSz.out
    have hle := plcF_le s d b
    have HLe := Lib.hid hle
    obtain ⟨P, hP⟩ : ∃ P, plcF s d b = P := ⟨_, rfl⟩
    rw [hP] at HRH HRP HLe
    obtain ⟨ta, hta⟩ : ∃ ta, s.extract 0 P = ta := ⟨_, rfl⟩
    obtain ⟨tb, htb⟩ : ∃ tb, s.extract P s.size = tb := ⟨_, rfl⟩
    rw [hta] at HRH
    rw [htb] at HRP
    have hj := cut_join s P HLe.out
    rw [hta, htb] at hj
    have HJ := Lib.hid hj
    clear hb hkd hle hP hta htb hj
    unfold inOf at HRH HRP HRT
    replace HRH : Hid (∀ (wx : World) (g : Nat), wx.cell? ⟨g, 0, none⟩ = some (.string kd) -> wx.cell? ⟨g, 1, none⟩ = some (.string kk) -> Calls Tryz.prog 6 #[.string headB, .slice (some ⟨g, 0, none⟩) 2 2, .iface 27 (.agg #[.string s, .int .i64 0, .slice none 0 0])] wx fun e w' => e = .returned (.agg #[.string ta, .string ⟨#[]⟩, .int .i64 0]) ∧ Keeps NoB wx w') := Lib.hid fun wx g h0 h1 => (HRH.out wx g h0 h1).mono (by rintro e w' ⟨t, rfl, rfl, hk⟩; exact ⟨rfl, hk⟩)
    replace HRP : Hid (∀ (wx : World) (g : Nat), wx.cell? ⟨g, 0, none⟩ = some (.string kd) -> wx.cell? ⟨g, 1, none⟩ = some (.string nn) -> Calls Tryz.prog 6 #[.string tailB, .slice (some ⟨g, 0, none⟩) 2 2, .iface 27 (.agg #[.string s, .int .i64 0, .slice none 0 0])] wx fun e w' => e = .returned (.agg #[.string tb, .string ⟨#[]⟩, .int .i64 0]) ∧ Keeps NoB wx w') := Lib.hid fun wx g h0 h1 => (HRP.out wx g h0 h1).mono (by rintro e w' ⟨t, rfl, rfl, hk⟩; exact ⟨rfl, hk⟩)
    have hk2 : (k : Int) < 2 := by omega
    go_upto_region 10 with fail
    have x0 := (HXl.out.on HKr.out).cell 0 _ rfl
    have x1 := (HXl.out.on HKr.out).cell 1 _ rfl
    have x2 := (HXl.out.on HKr.out).cell 2 _ rfl
    have xl := (HXl.out.on HKr.out).lt
    go_cut [10, 11] from 45 to 56 (fun ra rb wx => ∃ G1 G2 : Nat, ∃ wn : World, wn = wx ∧ ra = .pointer (some ⟨G1, 0, none⟩) ∧ rb = .pointer (some ⟨G2, 0, none⟩) ∧ wx.cell? ⟨G1, 0, none⟩ = some (.string ta) ∧ wx.cell? ⟨G2, 0, none⟩ = some (.string tb) ∧ Keeps NoB wr wx)
    case first =>
     have krd := (Keeps.refl NoB wr).drew
     have hxd := (HXl.out.on HKr.out).on krd
     have d0 := hxd.cell 0 _ rfl
     have d1 := hxd.cell 1 _ rfl
     have d2 := hxd.cell 2 _ rfl
     have dl := hxd.lt
     have HXr := Lib.hid (HXl.out.on HKr.out)
     clear hxd
     go_region_held3 (fun wz => wz.cell? ⟨XB, 0, none⟩ = some (.string s) ∧ wz.cell? ⟨XB, 1, none⟩ = some (.int .i64 0) ∧ wz.cell? ⟨XB, 2, none⟩ = some (.slice none 0 0) ∧ Keeps NoB wr wz) (refine ⟨?_, ?_, ?_, ?_⟩ <;> first | with_reducible assumption | (with_reducible refine (HXr.out.on ?_).cell 0 _ rfl; (repeat (first | with_reducible assumption | (with_reducible exact Keeps.refl _ _) | (with_reducible refine Keeps.drew ?_) | (with_reducible refine Keeps.drewN ?_ _) | (with_reducible refine Keeps.alloc ?_ _) | (with_reducible refine Keeps.setCell ?_ (by first | exact Or.inr (Nat.le_refl _) | exact Or.inr (by first | omega | (simp; done) | (simp; omega))) _))); done) | (with_reducible refine (HXr.out.on ?_).cell 1 _ rfl; (repeat (first | with_reducible assumption | (with_reducible exact Keeps.refl _ _) | (with_reducible refine Keeps.drew ?_) | (with_reducible refine Keeps.drewN ?_ _) | (with_reducible refine Keeps.alloc ?_ _) | (with_reducible refine Keeps.setCell ?_ (by first | exact Or.inr (Nat.le_refl _) | exact Or.inr (by first | omega | (simp; done) | (simp; omega))) _))); done) | (with_reducible refine (HXr.out.on ?_).cell 2 _ rfl; (repeat (first | with_reducible assumption | (with_reducible exact Keeps.refl _ _) | (with_reducible refine Keeps.drew ?_) | (with_reducible refine Keeps.drewN ?_ _) | (with_reducible refine Keeps.alloc ?_ _) | (with_reducible refine Keeps.setCell ?_ (by first | exact Or.inr (Nat.le_refl _) | exact Or.inr (by first | omega | (simp; done) | (simp; omega))) _))); done) | ((repeat (first | with_reducible assumption | (with_reducible exact Keeps.refl _ _) | (with_reducible refine Keeps.drew ?_) | (with_reducible refine Keeps.drewN ?_ _) | (with_reducible refine Keeps.alloc ?_ _) | (with_reducible refine Keeps.setCell ?_ (by first | exact Or.inr (Nat.le_refl _) | exact Or.inr (by first | omega | (simp; done) | (simp; omega))) _))); done))
      (first | (go_at_call 6; with_reducible refine (HRH.out _ _ (by first | with_reducible assumption | (go_simp <;> fail)) (by first | with_reducible assumption | (go_simp <;> fail))).mono ?_; rintro e v1 ⟨rfl, hk1⟩; have zk1 : Keeps NoB wr v1 := Keeps.trans (by (repeat (first | with_reducible assumption | (with_reducible exact Keeps.refl _ _) | (with_reducible refine Keeps.drew ?_) | (with_reducible refine Keeps.drewN ?_ _) | (with_reducible refine Keeps.alloc ?_ _) | (with_reducible refine Keeps.setCell ?_ (by first | exact Or.inr (Nat.le_refl _) | exact Or.inr (by first | omega | (simp; done) | (simp; omega))) _)))) hk1; have zs1 := zk1.size; have z0 := (HXr.out.on zk1).cell 0 _ rfl; have z1 := (HXr.out.on zk1).cell 1 _ rfl; have z2 := (HXr.out.on zk1).cell 2 _ rfl; (try (refine (fun (e0 : Bk v1 (wr.heap.size) res0) => ?_) ?_; rotate_left; (focus ((refine Bk.on (bk_of ?_ ?_ ?_ ?_) hk1) <;> (first | (intro _j; go_simp; done) | (go_simp; done)))); have e00 := e0.cell 0 _ rfl; have e01 := e0.cell 1 _ rfl; have e02 := e0.cell 2 _ rfl; have e0f := e0.fz; have e0l := e0.lt)); (try (refine (fun (e1 : Bk v1 (wr.heap.size + 1) res0) => ?_) ?_; rotate_left; (focus ((refine Bk.on (bk_of ?_ ?_ ?_ ?_) hk1) <;> (first | (intro _j; go_simp; done) | (go_simp; done)))); have e10 := e1.cell 0 _ rfl; have e11 := e1.cell 1 _ rfl; have e12 := e1.cell 2 _ rfl; have e1f := e1.fz; have e1l := e1.lt)); (try (refine (fun (e2 : Bk v1 (wr.heap.size + 1 + 1) res0) => ?_) ?_; rotate_left; (focus ((refine Bk.on (bk_of ?_ ?_ ?_ ?_) hk1) <;> (first | (intro _j; go_simp; done) | (go_simp; done)))); have e20 := e2.cell 0 _ rfl; have e21 := e2.cell 1 _ rfl; have e22 := e2.cell 2 _ rfl; have e2f := e2.fz; have e2l := e2.lt)); (try (refine (fun (e3 : Bk v1 (wr.heap.size + 1 + 1 + 1) res0) => ?_) ?_; rotate_left; (focus ((refine Bk.on (bk_of ?_ ?_ ?_ ?_) hk1) <;> (first | (intro _j; go_simp; done) | (go_simp; done)))); have e30 := e3.cell 0 _ rfl; have e31 := e3.cell 1 _ rfl; have e32 := e3.cell 2 _ rfl; have e3f := e3.fz; have e3l := e3.lt)); (try (refine (fun (r00 : v1.cell? ⟨wr.heap.size, 0, none⟩ = some (.string kd)) (r01 : v1.cell? ⟨wr.heap.size, 1, none⟩ = some (.string nn)) => ?_) ?_ ?_; rotate_left; (focus ((refine (hk1.cell (p := ⟨wr.heap.size, 0, none⟩) ?_ (fun h => h)).trans ?_) <;> (first | (intro _j; go_simp; done) | (go_simp; done)))); (focus ((refine (hk1.cell (p := ⟨wr.heap.size, 1, none⟩) ?_ (fun h => h)).trans ?_) <;> (first | (intro _j; go_simp; done) | (go_simp; done)))); have r0l := lt_of_cell r00)); (try (refine (fun (r10 : v1.cell? ⟨wr.heap.size + 1, 0, none⟩ = some (.string kd)) (r11 : v1.cell? ⟨wr.heap.size + 1, 1, none⟩ = some (.string nn)) => ?_) ?_ ?_; rotate_left; (focus ((refine (hk1.cell (p := ⟨wr.heap.size + 1, 0, none⟩) ?_ (fun h => h)).trans ?_) <;> (first | (intro _j; go_simp; done) | (go_simp; done)))); (focus ((refine (hk1.cell (p := ⟨wr.heap.size + 1, 1, none⟩) ?_ (fun h => h)).trans ?_) <;> (first | (intro _j; go_simp; done) | (go_simp; done)))); have r1l := lt_of_cell r10)); (try (refine (fun (r20 : v1.cell? ⟨wr.heap.size + 1 + 1, 0, none⟩ = some (.string kd)) (r21 : v1.cell? ⟨wr.heap.size + 1 + 1, 1, none⟩ = some (.string nn)) => ?_) ?_ ?_; rotate_left; (focus ((refine (hk1.cell (p := ⟨wr.heap.size + 1 + 1, 0, none⟩) ?_ (fun h => h)).trans ?_) <;> (first | (intro _j; go_simp; done) | (go_simp; done)))); (focus ((refine (hk1.cell (p := ⟨wr.heap.size + 1 + 1, 1, none⟩) ?_ (fun h => h)).trans ?_) <;> (first | (intro _j; go_simp; done) | (go_simp; done)))); have r2l := lt_of_cell r20)); (try (refine (fun (r30 : v1.cell? ⟨wr.heap.size + 1 + 1 + 1, 0, none⟩ = some (.string kd)) (r31 : v1.cell? ⟨wr.heap.size + 1 + 1 + 1, 1, none⟩ = some (.string nn)) => ?_) ?_ ?_; rotate_left; (focus ((refine (hk1.cell (p := ⟨wr.heap.size + 1 + 1 + 1, 0, none⟩) ?_ (fun h => h)).trans ?_) <;> (first | (intro _j; go_simp; done) | (go_simp; done)))); (focus ((refine (hk1.cell (p := ⟨wr.heap.size + 1 + 1 + 1, 1, none⟩) ?_ (fun h => h)).trans ?_) <;> (first | (intro _j; go_simp; done) | (go_simp; done)))); have r3l := lt_of_cell r30))) | (go_at_call 6; with_reducible refine (HRP.out _ _ ?_ ?_).mono ?_; (focus (first | with_reducible assumption | (exact ((show Keeps NoB v1 _ from (by (repeat (first | with_reducible assumption | (with_reducible exact Keeps.refl _ _) | (with_reducible refine Keeps.drew ?_) | (with_reducible refine Keeps.drewN ?_ _) | (with_reducible refine Keeps.alloc ?_ _) | (with_reducible refine Keeps.setCell ?_ (by first | exact Or.inr (Nat.le_refl _) | exact Or.inr (by first | omega | (simp; done) | (simp; omega))) _))))).cell (p := ⟨_, _, none⟩) r0l (fun h => h)).trans r00) | (exact ((show Keeps NoB v1 _ from (by (repeat (first | with_reducible assumption | (with_reducible exact Keeps.refl _ _) | (with_reducible refine Keeps.drew ?_) | (with_reducible refine Keeps.drewN ?_ _) | (with_reducible refine Keeps.alloc ?_ _) | (with_reducible refine Keeps.setCell ?_ (by first | exact Or.inr (Nat.le_refl _) | exact Or.inr (by first | omega | (simp; done) | (simp; omega))) _))))).cell (p := ⟨_, _, none⟩) r1l (fun h => h)).trans r10) | (exact ((show Keeps NoB v1 _ from (by (repeat (first | with_reducible assumption | (with_reducible exact Keeps.refl _ _) | (with_reducible refine Keeps.drew ?_) | (with_reducible refine Keeps.drewN ?_ _) | (with_reducible refine Keeps.alloc ?_ _) | (with_reducible refine Keeps.setCell ?_ (by first | exact Or.inr (Nat.le_refl _) | exact Or.inr (by first | omega | (simp; done) | (simp; omega))) _))))).cell (p := ⟨_, _, none⟩) r2l (fun h => h)).trans r20) | (exact ((show Keeps NoB v1 _ from (by (repeat (first | with_reducible assumption | (with_reducible exact Keeps.refl _ _) | (with_reducible refine Keeps.drew ?_) | (with_reducible refine Keeps.drewN ?_ _) | (with_reducible refine Keeps.alloc ?_ _) | (with_reducible refine Keeps.setCell ?_ (by first | exact Or.inr (Nat.le_refl _) | exact Or.inr (by first | omega | (simp; done) | (simp; omega))) _))))).cell (p := ⟨_, _, none⟩) r3l (fun h => h)).trans r30) | (go_simp <;> fail))); (focus (first | with_reducible assumption | (exact ((show Keeps NoB v1 _ from (by (repeat (first | with_reducible assumption | (with_reducible exact Keeps.refl _ _) | (with_reducible refine Keeps.drew ?_) | (with_reducible refine Keeps.drewN ?_ _) | (with_reducible refine Keeps.alloc ?_ _) | (with_reducible refine Keeps.setCell ?_ (by first | exact Or.inr (Nat.le_refl _) | exact Or.inr (by first | omega | (simp; done) | (simp; omega))) _))))).cell (p := ⟨_, _, none⟩) r0l (fun h => h)).trans r01) | (exact ((show Keeps NoB v1 _ from (by (repeat (first | with_reducible assumption | (with_reducible exact Keeps.refl _ _) | (with_reducible refine Keeps.drew ?_) | (with_reducible refine Keeps.drewN ?_ _) | (with_reducible refine Keeps.alloc ?_ _) | (with_reducible refine Keeps.setCell ?_ (by first | exact Or.inr (Nat.le_refl _) | exact Or.inr (by first | omega | (simp; done) | (simp; omega))) _))))).cell (p := ⟨_, _, none⟩) r1l (fun h => h)).trans r11) | (exact ((show Keeps NoB v1 _ from (by (repeat (first | with_reducible assumption | (with_reducible exact Keeps.refl _ _) | (with_reducible refine Keeps.drew ?_) | (with_reducible refine Keeps.drewN ?_ _) | (with_reducible refine Keeps.alloc ?_ _) | (with_reducible refine Keeps.setCell ?_ (by first | exact Or.inr (Nat.le_refl _) | exact Or.inr (by first | omega | (simp; done) | (simp; omega))) _))))).cell (p := ⟨_, _, none⟩) r2l (fun h => h)).trans r21) | (exact ((show Keeps NoB v1 _ from (by (repeat (first | with_reducible assumption | (with_reducible exact Keeps.refl _ _) | (with_reducible refine Keeps.drew ?_) | (with_reducible refine Keeps.drewN ?_ _) | (with_reducible refine Keeps.alloc ?_ _) | (with_reducible refine Keeps.setCell ?_ (by first | exact Or.inr (Nat.le_refl _) | exact Or.inr (by first | omega | (simp; done) | (simp; omega))) _))))).cell (p := ⟨_, _, none⟩) r3l (fun h => h)).trans r31) | (go_simp <;> fail))); rintro e v2 ⟨rfl, hk2⟩; have zk2 : Keeps NoB wr v2 := Keeps.trans (by (repeat (first | with_reducible assumption | (with_reducible exact Keeps.refl _ _) | (with_reducible refine Keeps.drew ?_) | (with_reducible refine Keeps.drewN ?_ _) | (with_reducible refine Keeps.alloc ?_ _) | (with_reducible refine Keeps.setCell ?_ (by first | exact Or.inr (Nat.le_refl _) | exact Or.inr (by first | omega | (simp; done) | (simp; omega))) _)))) hk2; have zs2 := zk2.size; have z0 := (HXr.out.on zk2).cell 0 _ rfl; have z1 := (HXr.out.on zk2).cell 1 _ rfl; have z2 := (HXr.out.on zk2).cell 2 _ rfl; (try (have f0 := Bk.on e0 (Keeps.trans (show Keeps NoB v1 _ from (by (repeat (first | with_reducible assumption | (with_reducible exact Keeps.refl _ _) | (with_reducible refine Keeps.drew ?_) | (with_reducible refine Keeps.drewN ?_ _) | (with_reducible refine Keeps.alloc ?_ _) | (with_reducible refine Keeps.setCell ?_ (by first | exact Or.inr (Nat.le_refl _) | exact Or.inr (by first | omega | (simp; done) | (simp; omega))) _))))) hk2); have f00 := f0.cell 0 _ rfl; have f01 := f0.cell 1 _ rfl; have f02 := f0.cell 2 _ rfl; have f0f := f0.fz; have f0l := f0.lt)); (try (have f1 := Bk.on e1 (Keeps.trans (show Keeps NoB v1 _ from (by (repeat (first | with_reducible assumption | (with_reducible exact Keeps.refl _ _) | (with_reducible refine Keeps.drew ?_) | (with_reducible refine Keeps.drewN ?_ _) | (with_reducible refine Keeps.alloc ?_ _) | (with_reducible refine Keeps.setCell ?_ (by first | exact Or.inr (Nat.le_refl _) | exact Or.inr (by first | omega | (simp; done) | (simp; omega))) _))))) hk2); have f10 := f1.cell 0 _ rfl; have f11 := f1.cell 1 _ rfl; have f12 := f1.cell 2 _ rfl; have f1f := f1.fz; have f1l := f1.lt)); (try (have f2 := Bk.on e2 (Keeps.trans (show Keeps NoB v1 _ from (by (repeat (first | with_reducible assumption | (with_reducible exact Keeps.refl _ _) | (with_reducible refine Keeps.drew ?_) | (with_reducible refine Keeps.drewN ?_ _) | (with_reducible refine Keeps.alloc ?_ _) | (with_reducible refine Keeps.setCell ?_ (by first | exact Or.inr (Nat.le_refl _) | exact Or.inr (by first | omega | (simp; done) | (simp; omega))) _))))) hk2); have f20 := f2.cell 0 _ rfl; have f21 := f2.cell 1 _ rfl; have f22 := f2.cell 2 _ rfl; have f2f := f2.fz; have f2l := f2.lt)); (try (have f3 := Bk.on e3 (Keeps.trans (show Keeps NoB v1 _ from (by (repeat (first | with_reducible assumption | (with_reducible exact Keeps.refl _ _) | (with_reducible refine Keeps.drew ?_) | (with_reducible refine Keeps.drewN ?_ _) | (with_reducible refine Keeps.alloc ?_ _) | (with_reducible refine Keeps.setCell ?_ (by first | exact Or.inr (Nat.le_refl _) | exact Or.inr (by first | omega | (simp; done) | (simp; omega))) _))))) hk2); have f30 := f3.cell 0 _ rfl; have f31 := f3.cell 1 _ rfl; have f32 := f3.cell 2 _ rfl; have f3f := f3.fz; have f3l := f3.lt)); (try (refine (fun (g0 : Bk v2 (v1.heap.size) res0) => ?_) ?_; rotate_left; (focus ((refine Bk.on (bk_of ?_ ?_ ?_ ?_) hk2) <;> (first | (intro _j; go_simp; done) | (go_simp; done)))); have g00 := g0.cell 0 _ rfl; have g01 := g0.cell 1 _ rfl; have g02 := g0.cell 2 _ rfl; have g0f := g0.fz; have g0l := g0.lt)); (try (refine (fun (g1 : Bk v2 (v1.heap.size + 1) res0) => ?_) ?_; rotate_left; (focus ((refine Bk.on (bk_of ?_ ?_ ?_ ?_) hk2) <;> (first | (intro _j; go_simp; done) | (go_simp; done)))); have g10 := g1.cell 0 _ rfl; have g11 := g1.cell 1 _ rfl; have g12 := g1.cell 2 _ rfl; have g1f := g1.fz; have g1l := g1.lt)); (try (refine (fun (g2 : Bk v2 (v1.heap.size + 1 + 1) res0) => ?_) ?_; rotate_left; (focus ((refine Bk.on (bk_of ?_ ?_ ?_ ?_) hk2) <;> (first | (intro _j; go_simp; done) | (go_simp; done)))); have g20 := g2.cell 0 _ rfl; have g21 := g2.cell 1 _ rfl; have g22 := g2.cell 2 _ rfl; have g2f := g2.fz; have g2l := g2.lt))))
     all_goals (first | (go_wp2_with fail; go_meet; refine ⟨_, _, _, rfl, rfl, rfl, ?_, ?_, ?_⟩; (focus (first | (go_simp; done) | (simp; done))); (focus (first | (go_simp; done) | (simp; done))); (focus ((repeat (first | with_reducible assumption | (with_reducible exact Keeps.refl _ _) | (with_reducible refine Keeps.drew ?_) | (with_reducible refine Keeps.drewN ?_ _) | (with_reducible refine Keeps.alloc ?_ _) | (with_reducible refine Keeps.setCell ?_ (by first | exact Or.inr (Nat.le_refl _) | exact Or.inr (by first | omega | (simp; done) | (simp; omega))) _))); done))) | skip)
    case rest =>
     obtain ⟨G1, G2, wq, rfl, rfl, rfl, hg1, hg2, hkq⟩ := hcut
     have HG1 : Hid (wq.cell? ⟨G1, 0, none⟩ = some (.string ta)) := hg1
     have HG2 : Hid (wq.cell? ⟨G2, 0, none⟩ = some (.string tb)) := hg2
     have HKq := Lib.hid (HKr.out.trans hkq)
     clear x0 x1 x2 xl c0 HRH HRP hg1 hg2 hkq
     have y0 := (HXl.out.on HKq.out).cell 0 _ rfl
     have y1 := (HXl.out.on HKq.out).cell 1 _ rfl
     have y2 := (HXl.out.on HKq.out).cell 2 _ rfl
     have yl := (HXl.out.on HKq.out).lt
     have ka : Keeps NoB wq (wq.alloc (.cells #[.string kd, .string kk] 9)) := (Keeps.refl _ _).alloc _
     have hrow := Bk.new (Keeps.refl NoB (wq.alloc (.cells #[.string kd, .string kk] 9)))
     have HRt := Lib.hid (HRT.out _ _ (hrow.cell 0 _ rfl) (hrow.cell 1 _ rfl))
     have HKa := Lib.hid ka
     have z0 := ((HXl.out.on HKq.out).on ka).cell 0 _ rfl
     have z1 := ((HXl.out.on HKq.out).on ka).cell 1 _ rfl
     have z2 := ((HXl.out.on HKq.out).on ka).cell 2 _ rfl
     have zl := ((HXl.out.on HKq.out).on ka).lt
     clear HRT ka hrow
     go_upto_region 12 with (go_at_call 6; go_loud (refine HRt.out.mono ?_); rintro e w6 ⟨t, rfl, htt, hk6⟩; have HTT := Lib.hid htt; clear htt)
     obtain ⟨r, hr, ht⟩ := HTT.out
     clear HTT
     have hj := HJ.out
     have hqs : ¬ 9223372036854775807 < ta.size + tb.size := by
      have h1 := congrArg ByteArray.size hj
      rw [ByteArray.size_append] at h1
      have := HSz.out
      omega
     have hts : t.size = s.size - r := by rw [ht, ByteArray.size_extract]; omega
     have hd1 : decide (s.size < t.size) = false := by rw [decide_eq_false_iff_not]; omega
     have hxt : s.extract (s.size - t.size) s.size = t := by rw [show s.size - t.size = r by omega]; exact ht.symm
     have HT : Hid (t = s.extract r s.size ∧ (s.size : Int) - (t.size : Int) = r) := by show _ ∧ _; exact ⟨ht, by omega⟩
     have ka : Keeps NoB w6 (w6.alloc (.cells #[.string t, .string ⟨#[]⟩, .int .i64 0] 31)) := (Keeps.refl _ _).alloc _
     have hc := Bk.new (Keeps.refl NoB (w6.alloc (.cells #[.string t, .string ⟨#[]⟩, .int .i64 0] 31)))
     have HK7 := Lib.hid (((HKq.out.trans HKa.out).trans hk6).trans ka)
     have hk8 := (HKa.out.trans hk6).trans ka
     have a0 := (hk8.cell (p := ⟨G1, 0, none⟩) (lt_of_cell HG1.out) (fun h => h)).trans HG1.out
     have al := lt_of_cell a0
     have b0 := (hk8.cell (p := ⟨G2, 0, none⟩) (lt_of_cell HG2.out) (fun h => h)).trans HG2.out
     have bl := lt_of_cell b0
     have t0 := hc.cell 0 _ rfl
     have tl := hc.lt
     have hlo : (0 : Int) <= (s.size : Int) - (t.size : Int) := by omega
     clear y0 y1 y2 yl z0 z1 z2 zl hk6 ka hc hk8 ht hts hr
     generalize w6.alloc (.cells #[.string t, .string ⟨#[]⟩, .int .i64 0] 31) = w7 at *
     generalize w6.heap.size = CB at *
     have hDD : (s.toList == s.toList) = true := by simp
     have hTT : (t.toList == t.toList) = true := by simp
     go_quiet (fail)
     go_wp2
     go_roundw
     case rel => exact ⟨k + 1, by omega, by go_num, HK7.out.drewN _⟩
     case measure => simp [intOf]; omega
   ·obtain rfl : k = 2 := by omega
    go_wp2_with fail
    go_ret
    exact ⟨rfl, HKl.out.trans HKr.out⟩
theorem as22_of {W : World} (h : laidMet Tryz.prog [("strings.asciiSpace", Rows.laid_strings_asciiSpace)] W) : As22 W := by
 rw [show Rows.laid_strings_asciiSpace = Lib.tabData .u8 Lib.asciiSpaceTab by kernel_rfl] at h
 have ht := Lib.tabIs_of_head (show Tryz.prog.globalNamed "strings.asciiSpace" = some 1 by kernel_rfl) (show (Tryz.prog.globals[1]?).map (·.type) = some 118 by kernel_rfl)
  (show Tryz.prog.underlying 118 = some (.array 256 5) by kernel_rfl) (show Tryz.prog.underlying 5 = some (.int .u8) by kernel_rfl) (by kernel_rfl) (by kernel_rfl) h
 intro c hc
 rw [ht.cell (show Tryz.prog.globalNamed "strings.asciiSpace" = some 1 by kernel_rfl) c (by rw [Lib.asciiSpaceTab_length]; exact hc), Lib.asciiSpaceTab_at c hc]
end Go.Proofs.YtkdfgkbojbdelaaGreatDoor
