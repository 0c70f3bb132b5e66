/-
  Layer 26: the walk of the law PlanSmall.
-/
import Derived.Test.YtonkgdoaobojbaaGreatDoorG05
import Derived.Test.YtonkgdoaobojbaaGreatDoorG06
import Derived.BigQuiet
import Derived.Deep.QuietTactic
import Derived.Test.YtonkgdoaobojbaaGreatDoorG01
import Derived.ProofKit
import Derived.OpenShut
import Derived.ShutString
import Derived.ChangeOld
import Derived.Deep.Slices
import Derived.Deep.Fields
import Derived.Test.YtonkgdoaobojbaaGreatDoorRows

set_option linter.unusedSimpArgs false
set_option linter.unusedVariables false
set_option maxRecDepth 100000
set_option maxHeartbeats 8000000
namespace Go.Proofs.YtonkgdoaobojbaaGreatDoor
open Go Go.RowKit
theorem partsD_len (ws : List Int) (N : Nat) : ∀ (ds : List ByteArray) (k : Nat), (∀ s ∈ ds, s.size <= N) -> (partsD ws k ds).length <= ds.length * N
 | [], _, _ => Nat.zero_le _
 | s :: r, k, h => by
   unfold partsD
   have h1 := partsD_len ws N r (k + 1) (fun x hx => h x (List.mem_cons_of_mem _ hx))
   have h2 := cuts_len s s.size (Nat.le_refl _)
   have h3 := h s (List.mem_cons_self ..)
   rw [List.length_append, List.length_map, List.length_cons, Nat.add_mul]
   omega
theorem datsP_mem {l : List Itm} {s : ByteArray} (h : s ∈ datsP l) : ∃ i ∈ l, s = i.dat := by
 unfold datsP at h
 obtain ⟨i, hi, rfl⟩ := List.mem_map.1 h
 obtain ⟨k, hk, e⟩ := List.mem_iff_getElem.1 hi
 obtain ⟨j, x, h1, h2, h3, _⟩ := ownN_at l l.length k i (by rw [List.getElem?_eq_getElem hk, e])
 refine ⟨x, List.mem_of_getElem? h2, ?_⟩
 unfold datI
 rw [h1, show ((j : Int)).toNat = j from rfl, h2]
theorem short26_any (l : List Itm) (hl : ∀ i ∈ l, i.p.size <= 140737488351232 ∧ i.dat.size <= 140737488351232 ∧ i.same.size <= 140737488351232) (w : World) {S : Nat -> Prop} {p : Option Addr} {cp : Nat} (hS : SlAt encItm S w p cp l) :
 Calls Tryz.prog 8 #[.slice p l.length cp] w fun e w' => e = .returned (.bool (shortB l 20 50000)) ∧ Keeps NoB w w' := by
 have HS := Lib.hid (short_any l 20 50000 (by decide) hl w hS)
 generalize shortB l 20 50000 = b at *
 clear hS hl
 go_enter Tryz.func8, Tryz.ntmps8
 go_wp2_with (go_at_call 23; go_loud (refine HS.out.mono ?_); rintro e w1 ⟨rfl, hk1⟩)
 go_ret
 exact ⟨rfl, hk1⟩
theorem make_err (l : List Itm) (hl : ∀ i ∈ l, i.p.size <= 1000000 ∧ i.dat.size <= 500000) (ws : List Int) (hws : ws.length <= 1000) (E : Int) (hE : E ≠ 0) (h : (ckE l).1 = E ∨ ((ckE l).1 = 0 ∧ firstE (waysP ws) (datsP l) = E)) (w : World) {S1 S2 : Nat -> Prop} {p wp : Option Addr} {cp wc : Nat} (hS : SlAt encItm S1 w p cp l) (hW : SlAt encInt S2 w wp wc ws) :
 Calls Tryz.prog 10 #[.slice p l.length cp, .slice wp ws.length wc] w fun e w' => e = .returned (.tuple #[.agg #[.slice none 0 0, .slice none 0 0, .slice none 0 0], .int .i64 E]) ∧ Keeps NoB w w' := by
 refine (make_any l hl ws hws w hS hW).mono ?_
 rintro e w' ⟨hk, hm⟩
 refine ⟨?_, hk⟩
 rcases h with h | ⟨h1, h2⟩
 ·rw [if_pos (by rw [h]; exact hE), h] at hm
  exact hm
 ·rw [if_neg (by rw [h1]; simp), if_pos (by rw [h2]; exact hE), h2] at hm
  exact hm
def Plan3 (l : List Itm) (ps : List Prt) (w : World) (e : Ending) (w' : World) : Prop :=
 ∃ tp tc fp fc pp pc, e = .returned (.tuple #[.agg #[.slice tp l.length tc, .slice fp (ownN l l.length).length fc, .slice pp ps.length pc], .int .i64 0]) ∧
   SlAt encItm (fun g => w.heap.size <= g) w' tp tc l ∧ SlAt encInt (fun g => w.heap.size <= g) w' fp fc (ownN l l.length) ∧ SlAt encPrt (fun g => w.heap.size <= g) w' pp pc ps ∧ Keeps NoB w w'
theorem make_ok3 (l : List Itm) (hl : ∀ i ∈ l, i.p.size <= 1000000 ∧ i.dat.size <= 500000) (ws : List Int) (hws : ws.length <= 1000) (hck : (ckE l).1 = 0) (hf : firstE (waysP ws) (datsP l) = 0) (w : World) {S1 S2 : Nat -> Prop} {p wp : Option Addr} {cp wc : Nat} (hS : SlAt encItm S1 w p cp l) (hW : SlAt encInt S2 w wp wc ws) :
 Calls Tryz.prog 10 #[.slice p l.length cp, .slice wp ws.length wc] w fun e w' => Plan3 l (partsD (waysP ws) 0 (datsP l)) w e w' := by
 refine (make_any l hl ws hws w hS hW).mono ?_
 rintro e w' ⟨hk, hm⟩
 rw [if_neg (by rw [hck]; simp), if_neg (by rw [hf]; simp)] at hm
 obtain ⟨tv, fv, pv, rfl, ht, hf', hp⟩ := hm
 obtain ⟨tp, tc, rfl, hts⟩ := ht.sl
 obtain ⟨fp, fc, rfl, hfs⟩ := hf'.sl
 obtain ⟨pp, pc, rfl, hps⟩ := hp.sl
 exact ⟨tp, tc, fp, fc, pp, pc, rfl, hts, hfs, hps, hk⟩
theorem makes_any (l : List Itm) (hl : ∀ i ∈ l, i.p.size <= 140737488351232 ∧ i.dat.size <= 140737488351232 ∧ i.same.size <= 140737488351232) (ws : List Int) (w : World) {S S2 : Nat -> Prop} {p wp : Option Addr} {cp wc : Nat} (hS : SlAt encItm S w p cp l) (hW : SlAt encInt S2 w wp wc ws) :
 Calls Tryz.prog 3 #[.slice p l.length cp, .slice wp ws.length wc] w fun e w' => e = .returned (.bool true) ∧ Keeps NoB w w' := by
 have HA := Lib.hid (fun w1 : World => anchor26_any w1)
 have HSh := Lib.hid (fun (w1 : World) (hk : Keeps NoB w w1) => short26_any l hl w1 (hS.keepN hk))
 rcases hsh : shortB l 20 50000 with _ | _
 ·rw [hsh] at HSh
  clear hsh hl hS hW
  go_enter Tryz.func3, Tryz.ntmps3
  go_wp2_with (first | ((go_at_call 7; go_loud (refine (HA.out _).mono ?_); rintro e w1 ⟨rfl, hk1⟩)) | ((go_at_call 8; go_loud (refine (HSh.out _ hk1).mono ?_); rintro e w2 ⟨rfl, hk2⟩; have HK2 := Lib.hid (hk1.trans hk2))))
  go_ret
  exact ⟨rfl, HK2.out⟩
 ·rw [hsh] at HSh
  unfold shortB at hsh
  simp only [Bool.and_eq_true, decide_eq_true_eq] at hsh
  obtain ⟨hsum, hlen⟩ := hsh
  by_cases hwl : 6 < ws.length
  ·have hwb : decide ((6 : Int) < (ws.length : Int)) = true := decide_eq_true (by omega)
   clear hwl hl hS hW hsum hlen
   go_enter Tryz.func3, Tryz.ntmps3
   go_wp2_with (first | ((go_at_call 7; go_loud (refine (HA.out _).mono ?_); rintro e w1 ⟨rfl, hk1⟩)) | ((go_at_call 8; go_loud (refine (HSh.out _ hk1).mono ?_); rintro e w2 ⟨rfl, hk2⟩; have HK2 := Lib.hid (hk1.trans hk2))))
   go_ret
   exact ⟨rfl, HK2.out⟩
  have hwb : decide ((6 : Int) < (ws.length : Int)) = false := decide_eq_false (by omega)
  have hsz : ∀ i ∈ l, i.p.size <= 50000 ∧ i.dat.size <= 50000 := fun i hi => by
   have := sumI_mem hi
   unfold szI at this
   omega
  have HIt := Lib.hid (fun (w1 : World) (hk : Keeps NoB w w1) => items_any l (by omega) w1 (hS.keepN hk))
  have HCk := Lib.hid (fun (w1 : World) {S2 : Nat -> Prop} {p2 : Option Addr} {c2 : Nat} (h2 : SlAt encItm S2 w1 p2 c2 l) => refCheck_any l (fun i hi => by have := hsz i hi; omega) w1 h2)
  have HWs := Lib.hid hW
  have HPr := Lib.hid (fun (w1 : World) (hk : Keeps NoB w w1) {S2 : Nat -> Prop} {p2 : Option Addr} {c2 : Nat} (h2 : SlAt encItm S2 w1 p2 c2 l) => refParts_any l (fun i hi => by have := hsz i hi; omega) (by omega) ws (by omega) w1 h2 (hW.keepN hk))
  by_cases hck : (ckE l).1 = 0
  ·rw [hck] at HCk
   by_cases hf2 : firstE (waysP ws) (datsP l) = 0
   ·have HMk := Lib.hid (fun (w1 : World) (hk : Keeps NoB w w1) => make_ok3 l (fun i hi => by have := hsz i hi; omega) ws (by omega) hck hf2 w1 (hS.keepN hk) (hW.keepN hk))
    have HOw := Lib.hid (fun (w1 : World) {S2 : Nat -> Prop} {p2 : Option Addr} {c2 : Nat} (h2 : SlAt encItm S2 w1 p2 c2 l) => refOwn_any l (by omega) w1 h2)
    have HPr2 : Hid (∀ (w1 : World) (hk : Keeps NoB w w1) (S2 : Nat -> Prop) (p2 : Option Addr) (c2 : Nat) (h2 : SlAt encItm S2 w1 p2 c2 l), Calls Tryz.prog 12 #[.slice p2 l.length c2, .slice wp ws.length wc] w1 fun e w' =>
     (∃ v, e = .returned (.tuple #[v, .int .i64 0]) ∧ Own encPrt 44 (fun g => w1.heap.size <= g) w' v (partsD (waysP ws) 0 (datsP l))) ∧ Keeps NoB w1 w') := Lib.hid (fun w1 hk S2 p2 c2 h2 => (HPr.out w1 hk h2).mono (fun e w' h => by
     obtain ⟨h1, h2⟩ := h
     rw [if_neg (by rw [hf2]; simp)] at h2
     exact ⟨h2, h1⟩))
    have hpl : (partsD (waysP ws) 0 (datsP l)).length <= 1000000 := by
     have h1 := partsD_len (waysP ws) 50000 (datsP l) 0 (fun s hs => by obtain ⟨i, hi, rfl⟩ := datsP_mem hs; exact (hsz i hi).2)
     have h2 : (datsP l).length <= l.length := by unfold datsP; rw [List.length_map]; exact ownN_len l _
     have h3 : (datsP l).length * 50000 <= 20 * 50000 := Nat.mul_le_mul_right _ (by omega)
     omega
    generalize partsD (waysP ws) 0 (datsP l) = ps at *
    generalize (ckE l).2 = R2 at *
    have hol := ownN_len l l.length
    have HS0 := Lib.hid hS
    have hcap := hS.cap
    have hmax := hS.max
    unfold maxLen at hmax
    clear hl hS hW hck hf2 hsz hsum hwl HPr
    go_enter Tryz.func3, Tryz.ntmps3
    go_upto_region 7 with (first | ((go_at_call 7; go_loud (refine (HA.out _).mono ?_); rintro e w1 ⟨rfl, hk1⟩)) | ((go_at_call 8; go_loud (refine (HSh.out _ hk1).mono ?_); rintro e w2 ⟨rfl, hk2⟩; have HK2 := Lib.hid (hk1.trans hk2))) | ((go_at_call 9; go_loud (refine (HIt.out _ HK2.out).mono ?_); rintro e w3 ⟨v, rfl, ho3, hk3⟩; obtain ⟨ip, ic, rfl, his⟩ := ho3.sl; have HK3 := Lib.hid (HK2.out.trans hk3); have HIs := Lib.hid his; clear ho3 hk3 his)) | (go_at_call 10; go_loud (refine (HMk.out _ HK3.out).mono ?_); rintro e w4 ⟨tp, tc, fp, fc, pp, pc, rfl, hts, hfs, hps, hk4⟩; have HK4' := Lib.hid (HK3.out.trans hk4); have HK34' := Lib.hid hk4; clear hk4))
    have ka : Keeps NoB w4 (w4.alloc (.cells #[.slice tp l.length tc, .slice fp (ownN l l.length).length fc, .slice pp ps.length pc] 31)) := (Keeps.refl _ _).alloc _
    have HB4 := Lib.hid (Bk.new (Keeps.refl NoB (w4.alloc (.cells #[.slice tp l.length tc, .slice fp (ownN l l.length).length fc, .slice pp ps.length pc] 31))))
    have HK4 := Lib.hid (HK4'.out.trans ka)
    have HK34 := Lib.hid (HK34'.out.trans ka)
    have HT4 := Lib.hid (hts.keepN ka)
    have HF4 := Lib.hid (hfs.keepN ka)
    have HP4 := Lib.hid (hps.keepN ka)
    have htc := hts.cap
    have htm := hts.max
    have hfc := hfs.cap
    have hfm := hfs.max
    have hpc := hps.cap
    have hpm := hps.max
    unfold maxLen at htm hfm hpm
    clear hts hfs hps ka
    generalize w4.alloc (.cells #[.slice tp l.length tc, .slice fp (ownN l l.length).length fc, .slice pp ps.length pc] 31) = w4a at *
    generalize w4.heap.size = B4 at *
    go_upto_region 14 with (first
     | ((go_at_call 11; go_loud (refine (HCk.out _ (HIs.out.keepN HK34.out)).mono ?_); rintro e w5 ⟨rfl, hk5⟩; have HK5 := Lib.hid (HK4.out.trans hk5); have HK35 := Lib.hid (HK34.out.trans hk5); have HB5 := Lib.hid (HB4.out.on hk5); have b0 := HB5.out.cell 0 _ rfl; have b1 := HB5.out.cell 1 _ rfl; have b2 := HB5.out.cell 2 _ rfl; have bl := HB5.out.lt; have HK45 := Lib.hid hk5; clear hk5))
     | (go_at_call 12; go_loud (refine (HPr2.out _ HK5.out _ _ _ (HIs.out.keepN HK35.out)).mono ?_); rintro e w6 ⟨⟨v6, rfl, ho6⟩, hk6⟩; obtain ⟨qp, qc, rfl, hqs⟩ := ho6.sl; have HK6 := Lib.hid (HK5.out.trans hk6); have HK36 := Lib.hid (HK35.out.trans hk6); have HK46 := Lib.hid (HK45.out.trans hk6); have HQ6 := Lib.hid hqs; have HB6 := Lib.hid (HB5.out.on hk6); clear ho6 hqs)
     | (go_at_call 13; go_loud (refine (HOw.out _ (HIs.out.keepN HK36.out)).mono ?_); rintro e w7 ⟨v7, rfl, ho7, hk7⟩; obtain ⟨rp, rc, rfl, hrs⟩ := ho7.sl; have HR7 := Lib.hid hrs; have HQ7 := Lib.hid (HQ6.out.keepN hk7); have HK7 := Lib.hid (HK6.out.trans hk7); have HB7 := Lib.hid (HB6.out.on hk7); have HK47 := Lib.hid (HK46.out.trans hk7); clear ho7 hrs))
    have HT7 := Lib.hid (HT4.out.keepN HK47.out)
    have HF7 := Lib.hid (HF4.out.keepN HK47.out)
    have HP7 := Lib.hid (HP4.out.keepN HK47.out)
    have HS7 := Lib.hid (HS0.out.keepN HK7.out)
    clear HT4 HF4 HP4 HK47 hk6 hk7 hk1 hk2 HIs HPr2 HOw HMk HSh HIt HCk b0 b1 b2 bl
    have b0 := HB7.out.cell 0 _ rfl
    have b1 := HB7.out.cell 1 _ rfl
    have b2 := HB7.out.cell 2 _ rfl
    have bl := HB7.out.lt
    go_upto_region 17 with fail
    go_loopw [95] (fun i wr => ∃ k : Nat, k <= l.length ∧ i = .int .i64 k ∧ Keeps NoB w7 wr) (fun i _ => l.length + 1 - (intOf i).toNat)
    case atStart => exact ⟨0, Nat.zero_le _, rfl, Keeps.refl _ _⟩
    case round =>
     rename World => wr
     obtain ⟨k, hk, rfl, hkr⟩ := hrel
     have HKr := Lib.hid hkr
     have hb8 := HB7.out.on hkr
     have e0 := hb8.cell 0 _ rfl
     have e1 := hb8.cell 1 _ rfl
     have e2 := hb8.cell 2 _ rfl
     have el := hb8.lt
     by_cases hkl : k < l.length
     ·obtain ⟨x, hx⟩ : ∃ x, l[k]? = some x := ⟨_, List.getElem?_eq_getElem hkl⟩
      obtain ⟨g, o, rfl, _, hgl, c0, c1, c2, c3, c4⟩ := (HT7.out.keepN hkr).itm hx
      obtain ⟨g', o', rfl, _, hgl', d0, d1, d2, d3, d4⟩ := (HS7.out.keepN hkr).itm hx
      obtain ⟨xp, xk, xm, xd, xs⟩ := x
      simp only at c0 c1 c2 c3 c4 d0 d1 d2 d3 d4
      have hki : (k : Int) < (l.length : Int) := by omega
      clear hx hb8 b0 b1 b2 hkr
      go_upto_region 19 with fail
      go_quiet (fail)
      go_wp2
      go_roundw
      case rel => exact ⟨k + 1, by omega, by go_num, HKr.out.drewN _⟩
      case measure => (simp [intOf]) <;> omega
     ·obtain rfl : k = l.length := by omega
      have HF8 := Lib.hid (HF7.out.keepN hkr)
      have HR8 := Lib.hid (HR7.out.keepN hkr)
      have HP8 := Lib.hid (HP7.out.keepN hkr)
      have HQ8 := Lib.hid (HQ7.out.keepN hkr)
      have HB8 := Lib.hid hb8
      have HK8 := Lib.hid (HK7.out.trans hkr)
      have hrc := HR7.out.cap
      have hrm := HR7.out.max
      unfold maxLen at hrm
      clear hb8 b0 b1 b2 bl hkr HKr
      go_upto_region 23 with fail
      go_loopw [111] (fun i wz => ∃ k : Nat, k <= (ownN l l.length).length ∧ i = .int .i64 k ∧ Keeps NoB wr wz) (fun i _ => (ownN l l.length).length + 1 - (intOf i).toNat)
      case atStart => exact ⟨0, Nat.zero_le _, rfl, Keeps.refl _ _⟩
      case round =>
       rename World => wz
       obtain ⟨k, hk, rfl, hkz⟩ := hrel
       have HKz := Lib.hid hkz
       have hb9 := HB8.out.on hkz
       have f0 := hb9.cell 0 _ rfl
       have f1 := hb9.cell 1 _ rfl
       have f2 := hb9.cell 2 _ rfl
       have fl := hb9.lt
       by_cases hkl : k < (ownN l l.length).length
       ·obtain ⟨x, hx⟩ : ∃ x, (ownN l l.length)[k]? = some x := ⟨_, List.getElem?_eq_getElem hkl⟩
        obtain ⟨g, o, rfl, _, hgl, c0⟩ := (HF8.out.keepN hkz).num hx
        obtain ⟨g', o', rfl, _, hgl', d0⟩ := (HR8.out.keepN hkz).num hx
        have hki : (k : Int) < ((ownN l l.length).length : Int) := by omega
        clear hx hb9 e0 e1 e2 hkz
        go_upto_region 25 with fail
        go_quiet (fail)
        go_wp2
        go_roundw
        case rel => exact ⟨k + 1, by omega, by go_num, HKz.out.drewN _⟩
        case measure => (simp [intOf]) <;> omega
       ·obtain rfl : k = (ownN l l.length).length := by omega
        have HP9 := Lib.hid (HP8.out.keepN hkz)
        have HQ9 := Lib.hid (HQ8.out.keepN hkz)
        have HB9 := Lib.hid hb9
        have HK9 := Lib.hid (HK8.out.trans hkz)
        have hqc := HQ7.out.cap
        have hqm := HQ7.out.max
        unfold maxLen at hqm
        clear hb9 e0 e1 e2 el hkz HKz
        go_upto_region 29 with fail
        go_loopw [127] (fun i wy => ∃ k : Nat, k <= ps.length ∧ i = .int .i64 k ∧ Keeps NoB wz wy) (fun i _ => ps.length + 1 - (intOf i).toNat)
        case atStart => exact ⟨0, Nat.zero_le _, rfl, Keeps.refl _ _⟩
        case round =>
         rename World => wy
         obtain ⟨k, hk, rfl, hky⟩ := hrel
         have HKy := Lib.hid hky
         have hb10 := HB9.out.on hky
         have g0 := hb10.cell 0 _ rfl
         have g1 := hb10.cell 1 _ rfl
         have g2 := hb10.cell 2 _ rfl
         have gl := hb10.lt
         by_cases hkl : k < ps.length
         ·obtain ⟨x, hx⟩ : ∃ x, ps[k]? = some x := ⟨_, List.getElem?_eq_getElem hkl⟩
          obtain ⟨g, o, rfl, _, hgl, c0, c1, c2⟩ := (HP9.out.keepN hky).prt hx
          obtain ⟨g', o', rfl, _, hgl', d0, d1, d2⟩ := (HQ9.out.keepN hky).prt hx
          obtain ⟨xf, xw, xt⟩ := x
          simp only at c0 c1 c2 d0 d1 d2
          have hki : (k : Int) < (ps.length : Int) := by omega
          clear hx hb10 f0 f1 f2 hky
          go_upto_region 31 with fail
          go_quiet (fail)
          go_wp2
          go_roundw
          case rel => exact ⟨k + 1, by omega, by go_num, HKy.out.drewN _⟩
          case measure => (simp [intOf]) <;> omega
         ·obtain rfl : k = ps.length := by omega
          clear hb10
          go_wp2
          go_ret
          exact ⟨rfl, HK9.out.trans HKy.out⟩
   ·have hfb : (firstE (waysP ws) (datsP l) != 0) = true := by simpa using hf2
    have HMk := Lib.hid (fun (w1 : World) (hk : Keeps NoB w w1) => make_err l (fun i hi => by have := hsz i hi; omega) ws (by omega) (firstE (waysP ws) (datsP l)) hf2 (.inr ⟨hck, rfl⟩) w1 (hS.keepN hk) (hW.keepN hk))
    have HPr2 : Hid (∀ (w1 : World) (hk : Keeps NoB w w1) (S2 : Nat -> Prop) (p2 : Option Addr) (c2 : Nat) (h2 : SlAt encItm S2 w1 p2 c2 l), Calls Tryz.prog 12 #[.slice p2 l.length c2, .slice wp ws.length wc] w1 fun e w' =>
     e = .returned (.tuple #[.slice none 0 0, .int .i64 (firstE (waysP ws) (datsP l))]) ∧ Keeps NoB w1 w') := Lib.hid (fun w1 hk S2 p2 c2 h2 => (HPr.out w1 hk h2).mono (fun e w' h => by
     obtain ⟨h1, h2⟩ := h
     rw [if_pos hf2] at h2
     exact ⟨h2, h1⟩))
    generalize firstE (waysP ws) (datsP l) = R1 at *
    generalize (ckE l).2 = R2 at *
    clear hl hS hW hck hsz hsum hlen hwl HPr hf2
    go_enter Tryz.func3, Tryz.ntmps3
    go_upto_region 7 with (first | ((go_at_call 7; go_loud (refine (HA.out _).mono ?_); rintro e w1 ⟨rfl, hk1⟩)) | ((go_at_call 8; go_loud (refine (HSh.out _ hk1).mono ?_); rintro e w2 ⟨rfl, hk2⟩; have HK2 := Lib.hid (hk1.trans hk2))) | ((go_at_call 9; go_loud (refine (HIt.out _ HK2.out).mono ?_); rintro e w3 ⟨v, rfl, ho3, hk3⟩; obtain ⟨ip, ic, rfl, his⟩ := ho3.sl; have HK3 := Lib.hid (HK2.out.trans hk3); have HIs := Lib.hid his; clear ho3 hk3 his)) | (go_at_call 10; go_loud (refine (HMk.out _ HK3.out).mono ?_); rintro e w4 ⟨rfl, hk4⟩; have HK4' := Lib.hid (HK3.out.trans hk4); have HK34' := Lib.hid hk4; clear hk4))
    have HB4 := Lib.hid (Bk.new (Keeps.refl NoB (w4.alloc (.cells #[.slice none 0 0, .slice none 0 0, .slice none 0 0] 31))))
    have HK4 := Lib.hid (HK4'.out.alloc (.cells #[.slice none 0 0, .slice none 0 0, .slice none 0 0] 31))
    have HK34 := Lib.hid (HK34'.out.alloc (.cells #[.slice none 0 0, .slice none 0 0, .slice none 0 0] 31))
    generalize w4.alloc (.cells #[.slice none 0 0, .slice none 0 0, .slice none 0 0] 31) = w4a at *
    generalize w4.heap.size = B4 at *
    go_wp2_with (first
     | ((go_at_call 11; go_loud (refine (HCk.out _ (HIs.out.keepN HK34.out)).mono ?_); rintro e w5 ⟨rfl, hk5⟩; have HK5 := Lib.hid (HK4.out.trans hk5); have HK35 := Lib.hid (HK34.out.trans hk5); have HB5 := Lib.hid (HB4.out.on hk5); have b0 := HB5.out.cell 0 _ rfl; have b1 := HB5.out.cell 1 _ rfl; have b2 := HB5.out.cell 2 _ rfl; have bl := HB5.out.lt; have HK45 := Lib.hid hk5; clear hk5))
     | (go_at_call 12; go_loud (refine (HPr2.out _ HK5.out _ _ _ (HIs.out.keepN HK35.out)).mono ?_); rintro e w6 ⟨rfl, hk6⟩; have HB6 := Lib.hid (HB5.out.on hk6); have c0 := HB6.out.cell 0 _ rfl; have c1 := HB6.out.cell 1 _ rfl; have c2 := HB6.out.cell 2 _ rfl; have cl := HB6.out.lt))
    go_ret
    exact ⟨rfl, HK5.out.trans hk6⟩
  ·have hcb : ((ckE l).1 != 0) = true := by simpa using hck
   have hcb2 : ((ckE l).1 == 0) = false := by simpa using hck
   have HMk := Lib.hid (fun (w1 : World) (hk : Keeps NoB w w1) => make_err l (fun i hi => by have := hsz i hi; omega) ws (by omega) (ckE l).1 hck (.inl rfl) w1 (hS.keepN hk) (hW.keepN hk))
   generalize (ckE l).1 = R1 at *
   generalize (ckE l).2 = R2 at *
   clear hl hS hW hck hsz hsum hlen hwl HPr
   go_enter Tryz.func3, Tryz.ntmps3
   go_upto_region 7 with (first | ((go_at_call 7; go_loud (refine (HA.out _).mono ?_); rintro e w1 ⟨rfl, hk1⟩)) | ((go_at_call 8; go_loud (refine (HSh.out _ hk1).mono ?_); rintro e w2 ⟨rfl, hk2⟩; have HK2 := Lib.hid (hk1.trans hk2))) | ((go_at_call 9; go_loud (refine (HIt.out _ HK2.out).mono ?_); rintro e w3 ⟨v, rfl, ho3, hk3⟩; obtain ⟨ip, ic, rfl, his⟩ := ho3.sl; have HK3 := Lib.hid (HK2.out.trans hk3); have HIs := Lib.hid his; clear ho3 hk3 his)) | (go_at_call 10; go_loud (refine (HMk.out _ HK3.out).mono ?_); rintro e w4 ⟨rfl, hk4⟩; have HK4' := Lib.hid (HK3.out.trans hk4); have HK34' := Lib.hid hk4; clear hk4))
   have HB4 := Lib.hid (Bk.new (Keeps.refl NoB (w4.alloc (.cells #[.slice none 0 0, .slice none 0 0, .slice none 0 0] 31))))
   have HK4 := Lib.hid (HK4'.out.alloc (.cells #[.slice none 0 0, .slice none 0 0, .slice none 0 0] 31))
   have HK34 := Lib.hid (HK34'.out.alloc (.cells #[.slice none 0 0, .slice none 0 0, .slice none 0 0] 31))
   generalize w4.alloc (.cells #[.slice none 0 0, .slice none 0 0, .slice none 0 0] 31) = w4a at *
   generalize w4.heap.size = B4 at *
   go_wp2_with ((go_at_call 11; go_loud (refine (HCk.out _ (HIs.out.keepN HK34.out)).mono ?_); rintro e w5 ⟨rfl, hk5⟩; have HK5 := Lib.hid (HK4.out.trans hk5); have HK35 := Lib.hid (HK34.out.trans hk5); have HB5 := Lib.hid (HB4.out.on hk5); have b0 := HB5.out.cell 0 _ rfl; have b1 := HB5.out.cell 1 _ rfl; have b2 := HB5.out.cell 2 _ rfl; have bl := HB5.out.lt; have HK45 := Lib.hid hk5; clear hk5))
   go_ret
   exact ⟨rfl, HK5.out⟩
end Go.Proofs.YtonkgdoaobojbaaGreatDoor
namespace Go.Proofs.YtonkgdoaobojbaaGreatDoor
open Go.RowKit Go.ChangeShapes Go.WideShapes Go.ChangeAt
theorem list_of {α : Type} {Q : Nat -> α -> Prop} : ∀ n, (∀ i, i < n -> ∃ x, Q i x) -> ∃ l : List α, l.length = n ∧ ∀ i x, l[i]? = some x -> Q i x
 | 0, _ => ⟨[], rfl, fun i x h => by simp at h⟩
 | n + 1, h => by
   obtain ⟨l, hl, hq⟩ := list_of n (fun i hi => h i (by omega))
   obtain ⟨x, hx⟩ := h n (by omega)
   refine ⟨l ++ [x], by simp [hl], fun i y hy => ?_⟩
   by_cases hi : i < n
   ·rw [List.getElem?_append_left (by omega)] at hy; exact hq i y hy
   ·rw [List.getElem?_append_right (by omega)] at hy
    have hi0 : i - l.length = 0 := by
     have := (List.getElem?_eq_some_iff.1 hy).1
     simp at this; omega
    rw [hi0] at hy
    have : i = n := by omega
    subst this
    simp at hy; subst hy; exact hx
section
variable {H : Type} {enc : TypeId × Value -> H} {P : Program} {W : World}
theorem open_sl {α : Type} (E : Enc α) {good : α -> Prop} {t e : TypeId} {p : Option Addr} {len cap : Nat} {d : DataW H} {ps : List MemPlace} (ht : P.underlying t = some (.slice e)) (hC : P.cellsOf e = E.k)
 (h : DataW.Trod enc P W 0 (fun _ => true) true t (.slice p len cap) d ps)
 (hdec : ∀ (n : Nat) (cs : List Value) (y : DataW H × List MemPlace), cs.length = E.k -> DataW.trod enc P W 0 (fun _ => true) true n e cs = some y -> ∃ x, E.enc x = cs ∧ good x) :
 ∃ l : List α, len = l.length ∧ SlAt E (fun g => g < W.heap.size) W p cap l ∧ ∀ x ∈ l, good x := by
 obtain ⟨fuel, hf⟩ := h
 rcases Go.Deep.open_slice ht hf with ⟨hcs, _⟩ | ⟨a, len1, cap1, m, n, D, Pl, hcs, _, hl, hm, hmm, _, hi⟩
 ·simp [Value.cells] at hcs
  obtain ⟨e1, e2, e3⟩ := hcs
  subst e1 e2 e3
  exact ⟨[], rfl, ⟨Nat.le_refl _, Nat.zero_le _, fun _ => rfl, (fun h => by omega), (fun h => by simp at h)⟩, by simp⟩
 ·simp [Value.cells] at hcs
  obtain ⟨e1, e2, e3⟩ := hcs
  subst e1 e2 e3
  simp only [if_true] at hmm
  have hmm1 := hmm.symm
  subst hmm1
  clear hmm
  obtain ⟨l, hll, hq⟩ := list_of (Q := fun i x => (∀ j, j < E.k -> W.cell? (a.add (i * E.k + j)) = (E.enc x)[j]?) ∧ good x) cap (fun i him => by
   obtain ⟨cs', hc, ht'⟩ := hi i him
   rw [hC] at hc
   obtain ⟨_, hcl, hat⟩ := World.cells?_some hc
   obtain ⟨x, hx, hg⟩ := hdec n cs' _ hcl ht'
   refine ⟨x, fun j hj => ?_, hg⟩
   rw [hx, <- hat j hj, Go.Deep.add_add])
  have hspot : 0 < cap -> a.spot = none := fun h0 => by
   obtain ⟨x, hx⟩ : ∃ x, l[0]? = some x := ⟨_, List.getElem?_eq_getElem (by omega)⟩
   have h1 := (hq 0 x hx).1 0 E.pos
   obtain ⟨u, hu⟩ : ∃ u, (E.enc x)[0]? = some u := ⟨_, List.getElem?_eq_getElem (by rw [E.len]; exact E.pos)⟩
   rw [hu] at h1
   simpa [Addr.add] using World.cell?_spot h1
  refine ⟨l.take len, by simp; omega, ⟨by simp; omega, hm, (fun h => by cases h), (fun h0 a' ha => by cases ha; exact hspot h0), fun h0 => ?_⟩, fun x hx => ?_⟩
  ·simp at h0
   have hs := hspot (by omega)
   obtain ⟨b, off, sp⟩ := a
   subst hs
   refine ⟨b, off, rfl, ?_, ?_, fun j hj => ?_⟩
   rotate_left 2
   ·have hk := E.pos
    rw [List.length_take, Nat.min_eq_left (by omega)] at hj
    have hd : j = j / E.k * E.k + j % E.k := by rw [Nat.mul_comm]; exact (Nat.div_add_mod j E.k).symm
    have hm' := Nat.mod_lt j hk
    have hq' : j / E.k < len := Nat.div_lt_of_lt_mul (by rw [Nat.mul_comm]; exact hj)
    obtain ⟨x, hx⟩ : ∃ x, l[j / E.k]? = some x := ⟨_, List.getElem?_eq_getElem (by omega)⟩
    have h1 := (hq _ x hx).1 _ hm'
    rw [add_lit] at h1
    rw [hd, h1, E.flat_get _ _ _ hm', List.getElem?_take, if_pos hq', hx]; rfl
   all_goals
    obtain ⟨x, hx⟩ : ∃ x, l[0]? = some x := ⟨_, List.getElem?_eq_getElem (by omega)⟩
    have h1 := (hq 0 x hx).1 0 E.pos
    obtain ⟨u, hu⟩ : ∃ u, (E.enc x)[0]? = some u := ⟨_, List.getElem?_eq_getElem (by rw [E.len]; exact E.pos)⟩
    rw [hu, add_lit] at h1
    exact lt_of_cell h1
  ·obtain ⟨i, hi⟩ := List.mem_iff_getElem?.1 (List.mem_of_mem_take hx)
   exact (hq i x hi).2
end
end Go.Proofs.YtonkgdoaobojbaaGreatDoor
namespace Go.Proofs.YtonkgdoaobojbaaGreatDoor
open Go Go.RowKit Go.ChangeShapes Go.WideShapes Go.ChangeAt
section
variable {H : Type} {enc : TypeId × Value -> H} {P : Program} {W : World}
theorem weightsAll_mem {e : TypeId} : ∀ (l : List (DataW H)) (q : Nat -> Bool), (DataW.weightsAll P e l).all q = true -> ∀ d ∈ l, (d.weights P e).all q = true
 | [], _, _, d, hd => by cases hd
 | a :: l, q, h, d, hd => by
   rw [DataW.weightsAll, List.all_append, Bool.and_eq_true] at h
   rcases List.mem_cons.1 hd with rfl | hd
   ·exact h.1
   ·exact weightsAll_mem l q h.2 d hd
theorem weights_head {t : TypeId} {ts vts : List TypeId} {d : DataW H} {ds : List (DataW H)} {q : Nat -> Bool} (h : (DataW.weightsEach P (t :: ts ++ vts) (d :: ds)).all q = true) : (d.weights P t).all q = true := by
 rw [List.cons_append, DataW.weightsEach, List.all_append, Bool.and_eq_true] at h
 exact h.1
theorem open_slW {α : Type} (E : Enc α) {good : α -> Prop} {t e : TypeId} {p : Option Addr} {len cap : Nat} {d : DataW H} {ps : List MemPlace} (ht : P.underlying t = some (.slice e)) (hC : P.cellsOf e = E.k)
 (h : DataW.Trod enc P W 0 (fun _ => true) true t (.slice p len cap) d ps) (hw : (d.weights P t).all (· <= reachBytes) = true)
 (hdec : ∀ (n : Nat) (cs : List Value) (y : DataW H × List MemPlace), cs.length = E.k -> DataW.trod enc P W 0 (fun _ => true) true n e cs = some y -> (y.1.weights P e).all (· <= reachBytes) = true -> ∃ x, E.enc x = cs ∧ good x) :
 ∃ l : List α, len = l.length ∧ SlAt E (fun g => g < W.heap.size) W p cap l ∧ ∀ x ∈ l, good x := by
 obtain ⟨fuel, hf⟩ := h
 rcases Go.Deep.open_slice ht hf with ⟨hcs, _⟩ | ⟨a, len1, cap1, m, n, D, Pl, hcs, _, hl, hm, hmm, hdd, hi⟩
 ·simp [Value.cells] at hcs
  obtain ⟨e1, e2, e3⟩ := hcs
  subst e1 e2 e3
  exact ⟨[], rfl, ⟨Nat.le_refl _, Nat.zero_le _, fun _ => rfl, (fun h => by omega), (fun h => by simp at h)⟩, by simp⟩
 ·simp [Value.cells] at hcs
  obtain ⟨e1, e2, e3⟩ := hcs
  subst e1 e2 e3
  simp only [if_true] at hmm
  have hmm1 := hmm.symm
  subst hmm1
  clear hmm
  have hel : ∀ i, i < cap -> ((D i).weights P e).all (· <= reachBytes) = true := fun i hi => by
   have hd1 : d = .slice ((List.range len).map D) ((List.range (cap - len)).map fun j => D (len + j)) := congrArg Prod.fst hdd
   rw [hd1] at hw
   simp only [DataW.weights, ht, List.all_cons, List.all_append, Bool.and_eq_true] at hw
   by_cases hil : i < len
   ·exact weightsAll_mem _ _ hw.2.1 (D i) (List.mem_map.2 ⟨i, List.mem_range.2 hil, rfl⟩)
   ·exact weightsAll_mem _ _ hw.2.2 (D i) (List.mem_map.2 ⟨i - len, List.mem_range.2 (by omega), by rw [show len + (i - len) = i by omega]⟩)
  obtain ⟨l, hll, hq⟩ := list_of (Q := fun i x => (∀ j, j < E.k -> W.cell? (a.add (i * E.k + j)) = (E.enc x)[j]?) ∧ good x) cap (fun i him => by
   obtain ⟨cs', hc, ht'⟩ := hi i him
   rw [hC] at hc
   obtain ⟨_, hcl, hat⟩ := World.cells?_some hc
   obtain ⟨x, hx, hg⟩ := hdec n cs' _ hcl ht' (hel i him)
   refine ⟨x, fun j hj => ?_, hg⟩
   rw [hx, <- hat j hj, Go.Deep.add_add])
  have hspot : 0 < cap -> a.spot = none := fun h0 => by
   obtain ⟨x, hx⟩ : ∃ x, l[0]? = some x := ⟨_, List.getElem?_eq_getElem (by omega)⟩
   have h1 := (hq 0 x hx).1 0 E.pos
   obtain ⟨u, hu⟩ : ∃ u, (E.enc x)[0]? = some u := ⟨_, List.getElem?_eq_getElem (by rw [E.len]; exact E.pos)⟩
   rw [hu] at h1
   simpa [Addr.add] using World.cell?_spot h1
  refine ⟨l.take len, by simp; omega, ⟨by simp; omega, hm, (fun h => by cases h), (fun h0 a' ha => by cases ha; exact hspot h0), fun h0 => ?_⟩, fun x hx => ?_⟩
  ·simp at h0
   have hs := hspot (by omega)
   obtain ⟨b, off, sp⟩ := a
   subst hs
   refine ⟨b, off, rfl, ?_, ?_, fun j hj => ?_⟩
   rotate_left 2
   ·have hk := E.pos
    rw [List.length_take, Nat.min_eq_left (by omega)] at hj
    have hd : j = j / E.k * E.k + j % E.k := by rw [Nat.mul_comm]; exact (Nat.div_add_mod j E.k).symm
    have hm' := Nat.mod_lt j hk
    have hq' : j / E.k < len := Nat.div_lt_of_lt_mul (by rw [Nat.mul_comm]; exact hj)
    obtain ⟨x, hx⟩ : ∃ x, l[j / E.k]? = some x := ⟨_, List.getElem?_eq_getElem (by omega)⟩
    have h1 := (hq _ x hx).1 _ hm'
    rw [add_lit] at h1
    rw [hd, h1, E.flat_get _ _ _ hm', List.getElem?_take, if_pos hq', hx]; rfl
   all_goals
    obtain ⟨x, hx⟩ : ∃ x, l[0]? = some x := ⟨_, List.getElem?_eq_getElem (by omega)⟩
    have h1 := (hq 0 x hx).1 0 E.pos
    obtain ⟨u, hu⟩ : ∃ u, (E.enc x)[0]? = some u := ⟨_, List.getElem?_eq_getElem (by rw [E.len]; exact E.pos)⟩
    rw [hu, add_lit] at h1
    exact lt_of_cell h1
  ·obtain ⟨i, hi⟩ := List.mem_iff_getElem?.1 (List.mem_of_mem_take hx)
   exact (hq i x hi).2
end
theorem cells_int26 : Tryz.prog.cellsOf 3 = 1 := by kernel_rfl
theorem cells_string26 : Tryz.prog.cellsOf 9 = 1 := by kernel_rfl
theorem open_itm {H : Type} {enc : TypeId × Value -> H} {W : World} {p : Option Addr} {len cap : Nat} {d : DataW H} {ps : List MemPlace}
 (hw : (d.weights Tryz.prog 23).all (· <= reachBytes) = true) (h : DataW.Trod enc Tryz.prog W 0 (fun _ => true) true 23 (.slice p len cap) d ps) :
 ∃ l : List Itm, len = l.length ∧ SlAt encItm (fun g => g < W.heap.size) W p cap l ∧ ∀ i ∈ l, i.p.size <= 140737488351232 ∧ i.dat.size <= 140737488351232 ∧ i.same.size <= 140737488351232 := by
 refine open_slW encItm Tryz.underlying23 (by kernel_rfl) h hw fun n cs y hl hy hq => ?_
 match cs, hl with
 | [v0, v1, v2, v3, v4], _ =>
   obtain ⟨xs, n', hy1, hy2, hy3, hlen, hf⟩ := DataW.trod_struct Tryz.underlying42 hy
   match xs, hlen with
   | [y0, y1, y2, y3, y4], _ =>
     have h0 := hf 0 _ rfl
     have h1 := hf 1 _ rfl
     have h2 := hf 2 _ rfl
     have h3 := hf 3 _ rfl
     have h4 := hf 4 _ rfl
     simp only [List.getElem_toArray, List.getElem_cons_zero, List.getElem_cons_succ, cells_int26, cells_string26, List.drop_zero, List.drop_succ_cons, List.take_succ_cons, List.take_zero] at h0 h1 h2 h3 h4
     obtain ⟨a, ha, e0, _⟩ := DataW.trod_string Tryz.underlying9 h0
     obtain ⟨b, hb, e1, _⟩ := DataW.trod_int Tryz.underlying3 h1
     obtain ⟨c, hc, e2, _⟩ := DataW.trod_int Tryz.underlying3 h2
     obtain ⟨d, hd, e3, _⟩ := DataW.trod_string Tryz.underlying9 h3
     obtain ⟨e, he, e4, _⟩ := DataW.trod_string Tryz.underlying9 h4
     subst e0 e1 e2 e3 e4
     subst hy2
     simp only [DataW.weights, Tryz.underlying42, List.map_cons, List.map_nil, DataW.weightsEach, List.append_nil, List.nil_append, List.cons_append, List.all_cons, List.all_nil, Bool.and_true, Bool.and_eq_true, decide_eq_true_eq, Lib.size_eq] at hq
     have hr : reachBytes = 140737488351232 := rfl
     rw [hr] at hq
     have hq1 : a.size <= 140737488351232 ∧ d.size <= 140737488351232 ∧ e.size <= 140737488351232 := by
      rw [Lib.size_eq, Lib.size_eq, Lib.size_eq]
      simpa using hq
     simp only [List.cons.injEq, and_true] at ha hb hc hd he
     subst ha hb hc hd he
     exact ⟨⟨a, b, c, d, e⟩, rfl, hq1⟩
end Go.Proofs.YtonkgdoaobojbaaGreatDoor
namespace Go.Proofs.YtonkgdoaobojbaaGreatDoor
open Go.RowKit
section
variable {H : Type} {enc : TypeId × Value -> H} {P : Program} {W : World}
theorem open_ints_sl {t e : TypeId} {p : Option Addr} {len cap : Nat} {d : DataW H} {ps : List MemPlace} (ht : P.underlying t = some (.slice e)) (he : P.underlying e = some (.int .i64)) (hC : P.cellsOf e = 1)
 (h : DataW.Trod enc P W 0 (fun _ => true) true t (.slice p len cap) d ps) :
 ∃ l : List Int, len = l.length ∧ SlAt encInt (fun g => g < W.heap.size) W p cap l ∧ ∀ x ∈ l, True := by
 refine open_sl encInt (good := fun _ => True) ht hC h fun n cs y hl hy => ?_
 match cs, hl with
 | [v], _ =>
   obtain ⟨x, hx, _, _⟩ := DataW.trod_int he hy
   exact ⟨x, hx.symm, trivial⟩
end
end Go.Proofs.YtonkgdoaobojbaaGreatDoor
