/-
 Contracts of the reference for layer 5: way, at an absolute path.
-/
import Derived.Test.YtijbhmledmnifaaGreatDoorG12

set_option linter.unusedSimpArgs false
set_option linter.unusedVariables false
set_option maxRecDepth 100000
set_option maxHeartbeats 40000000
namespace Go.Proofs.YtijbhmledmnifaaGreatDoor
open Go Go.RowKit
section
variable {S : Nat -> Prop} {w : World} {p : Option Addr} {c : Nat} {d : Nds} {room : Int}
theorem way_true (hI : DInv d) (hs : smallD d) {up : Int -> Int} (hup : ∀ i u, folderErr d i = 0 -> UpIs d i u -> up i = u) (follow : Bool) (fuel : Nat) (ih : WayOk d up room follow fuel) : ∀ (S : Nat -> Prop) (w : World) (p : Option Addr) (c : Nat), RefAt S w p c d -> ∀ (from' : Int) (s : ByteArray) (n : Nat), s.size <= 4294967280 -> n <= 40 -> 41 <= n + (fuel + 1) -> absB s = true ->
 Calls Tryz.prog 180 #[refV p c d room, .int .i64 from', .string s, .bool follow, .int .i64 n] w fun e w' =>
  e = .returned (.tuple #[plcV (findS d up follow (fuel + 1) from' s n).1, .int .i64 (findS d up follow (fuel + 1) from' s n).2]) ∧ Keeps NoB w w' := by
 intro S w p c h from' s n hsz h40 hfu habs
 have HUp := Lib.hid hup
 have IH := Lib.hid ih
 clear hup ih
 obtain ⟨F, hF⟩ : ∃ F, findS d up follow (fuel + 1) from' s n = F := ⟨_, rfl⟩
 rw [hF]
 rw [findS_succ] at hF
 have hcap := h.cap
 have hmax := h.max
 unfold maxLen at hmax
 have e1 : (w.alloc (.cells #[.slice p d.length c, .int .i64 room] 35)).heap.size = w.heap.size + 1 := by simp
 have HA : Hid (Keeps NoB w ((w.alloc (.cells #[.slice p d.length c, .int .i64 room] 35)).alloc (.cells #[.int .i64 0, .int .i64 0, .string ⟨#[]⟩] 129))) := Lib.hid (((Keeps.refl _ _).alloc _).alloc _)
 have HLo := Lib.hid (fun wx : World => r5look_any s wx (by omega))
 by_cases hpe : pathErr s ≠ 0
 ·rw [if_pos hpe] at hF
  have hne : (pathErr s != 0) = true := by simpa using hpe
  replace hF := Lib.hid hF
  generalize pathErr s = pe at *
  unfold refV
  go_enter Tryz.func180, Tryz.ntmps180
  go_wp2_with (first | (go_at_call 235; go_loud (refine (HLo.out _).mono ?_); rintro e w' ⟨rfl, zw⟩; subst zw))
  (try simp only [Exit.inBlock, Exit.then])
  refine bodyPost_ret (v := .tuple #[plcV .no, .int .i64 pe]) ?_ rfl ?_
  ·rw [results_cell_tmp rfl]; unfold plcV Plc.no; go_simp
  ·refine ⟨by rw [<- hF.out], ?_⟩
   (repeat (first | with_reducible assumption | (with_reducible exact Keeps.refl _ _) | (with_reducible refine Keeps.drew ?_) | (with_reducible refine Keeps.alloc ?_ _) | (with_reducible refine Keeps.setCell ?_ (by first | exact Or.inl rfl | exact Or.inr (Nat.le_refl _) | exact Or.inr (Nat.le_succ _) | exact Or.inr (by first | (simp; done) | (simp; omega))) _)))
 have hpe0 : pathErr s = 0 := Classical.not_not.1 hpe
 rw [if_neg hpe] at hF
 have hs0 : ¬ s = ⟨#[]⟩ := fun e => by subst e; exact absurd hpe0 (by decide)
 have hs1 := size_pos hs0
 have hs2 : s.size <= 4095 := by
  unfold pathErr at hpe0
  rw [if_neg hs0] at hpe0
  split at hpe0
  ·cases hpe0
  ·omega
 have HPa := Lib.hid (fun wx : World => r2parts_any s wx (by omega))
 have HIn := Lib.hid (fun (wx : World) (kx : Keeps NoB w wx) (i : Int) => r5into_any (room := room) (h.keepN kx) hI i)
 unfold refV at HIn
 have hl1 : (prts s).length <= 4096 := by have := prts_length s; omega
 have HZ := Lib.hid (fun x hx => Nat.le_trans (prts_size s x hx) hs2)
 have HN := Lib.hid (prts_ne s)
 have hab := absB_first s hs1
 have hsl := endS_last s hs1
 have hb1 := byte_eq s[0] 47 (by decide) (by decide)
 have hb2 := byte_eq (s[s.size - 1]'(by omega)) 47 (by decide) (by decide)
 rw [show (47 : Int).toNat.toUInt8 = 47 from rfl] at hb1 hb2
 rw [<- hab] at hb1
 rw [<- hsl] at hb2
 have ei : ((s.size - 1 : Nat) : Int) = (s.size : Int) - 1 := by omega
 rw [hpe0] at HLo
 obtain ⟨l, hl⟩ : ∃ l, prts s = l := ⟨_, rfl⟩
 obtain ⟨sl, hsl0⟩ : ∃ sl, endS s = sl := ⟨_, rfl⟩
 obtain ⟨ab, hab0⟩ : ∃ ab, absB s = ab := ⟨_, rfl⟩
 rw [hl] at HPa hF hl1 HZ HN
 rw [hsl0] at hb2 hF
 rw [hab0] at hb1 hF
 have hiso : l = [] -> ab = true := fun e => by rw [<- hab0]; exact isOn_abs s hs0 (hl.trans e)
 obtain ⟨at0, hat0⟩ : ∃ at0 : Int, at0 = if ab = true then 1 else from' := ⟨_, rfl⟩
 rw [<- hat0] at hF
 replace hF := Lib.hid hF
 have hax : ab = true := hab0.symm.trans habs
 clear hpe hpe0 hab hsl hl hsl0 hab0 habs
 unfold refV
 subst hax
 all_goals
  (first | rw [if_pos rfl] at hat0 | rw [if_neg (by simp)] at hat0)
  go_enter Tryz.func180, Tryz.ntmps180
  go_upto_region 8 with (first | (go_at_call 235; go_loud (refine (HLo.out _).mono ?_); rintro e w' ⟨rfl, zw⟩; subst zw) | (go_at_call 236; go_loud (refine (HPa.out _).mono ?_); rintro e w2 ⟨v, rfl, hown, hk2⟩; obtain ⟨p1, c1, rfl, hsl0⟩ := hown.sl))
  have hkz := HA.out.trans hk2
  have KB := c3_new (v0 := .int .i64 0) (v1 := .int .i64 0) (v2 := .string ⟨#[]⟩) hk2
  rw [e1] at KB
  have D0 := boxed (((Keeps.refl NoB (w.alloc (.cells #[.slice p d.length c, .int .i64 room] 35))).alloc (.cells #[.int .i64 0, .int .i64 0, .string ⟨#[]⟩] 129)).trans hk2) 0 _ rfl
  have D1 := boxed (((Keeps.refl NoB (w.alloc (.cells #[.slice p d.length c, .int .i64 room] 35))).alloc (.cells #[.int .i64 0, .int .i64 0, .string ⟨#[]⟩] 129)).trans hk2) 1 _ rfl
  have DL : w.heap.size < w2.heap.size := by have := KB.lt; omega
  clear HA e1 hk2 HLo HPa hb1 hb2 ei hown
  by_cases hl0 : l = []
  ·first
   | exact absurd (hiso hl0) Bool.false_ne_true
   | (
     by_cases hin : intoErr d 1 = 0
     ·have hF1 := hF.out
      rw [if_pos hl0, hat0, hin, if_neg (by simp)] at hF1
      replace hF1 := Lib.hid hF1
      have HI1 := Lib.hid (HIn.out w2 hkz 1)
      rw [hin] at HI1
      clear hF HIn
      subst hl0
      have B0 := KB.c0
      have B1 := KB.c1
      have B2 := KB.c2
      have FB := KB.fz
      have bl := KB.lt
      go_wp2_with (first | (go_at_call 237; go_loud (refine HI1.out.mono ?_); rintro e w3 ⟨rfl, hk3⟩; (replace KB := KB.on hk3); (clear B0 B1 B2 FB bl); have B0 := KB.c0; have B1 := KB.c1; have B2 := KB.c2; have FB := KB.fz; have bl := KB.lt; have hkz3 := hkz.trans hk3))
      (try simp only [Exit.inBlock, Exit.then])
      refine bodyPost_ret (v := .tuple #[plcV (.on 1), .int .i64 0]) ?_ rfl ?_
      ·rw [results_cell_tmp rfl]; unfold plcV Plc.on; go_simp
      ·refine ⟨by rw [<- hF1.out], ?_⟩
       (repeat (first | with_reducible assumption | (with_reducible exact Keeps.refl _ _) | (with_reducible refine Keeps.drew ?_) | (with_reducible refine Keeps.alloc ?_ _) | (with_reducible refine Keeps.setCell ?_ (by first | exact Or.inl rfl | exact Or.inr (Nat.le_refl _) | exact Or.inr (Nat.le_succ _) | exact Or.inr (by first | (simp; done) | (simp; omega))) _)))
     ·have hF1 := hF.out
      rw [if_pos hl0, hat0, if_pos hin] at hF1
      replace hF1 := Lib.hid hF1
      have HI1 := Lib.hid (HIn.out w2 hkz 1)
      have hinb : (intoErr d 1 != 0) = true := by simpa using hin
      generalize intoErr d 1 = ie at *
      clear hF HIn hin
      subst hl0
      have B0 := KB.c0
      have B1 := KB.c1
      have B2 := KB.c2
      have FB := KB.fz
      have bl := KB.lt
      go_wp2_with (first | (go_at_call 237; go_loud (refine HI1.out.mono ?_); rintro e w3 ⟨rfl, hk3⟩; (replace KB := KB.on hk3); (clear B0 B1 B2 FB bl); have B0 := KB.c0; have B1 := KB.c1; have B2 := KB.c2; have FB := KB.fz; have bl := KB.lt; have hkz3 := hkz.trans hk3))
      (try simp only [Exit.inBlock, Exit.then])
      refine bodyPost_ret (v := .tuple #[plcV .no, .int .i64 ie]) ?_ rfl ?_
      ·rw [results_cell_tmp rfl]; unfold plcV Plc.no; go_simp
      ·refine ⟨by rw [<- hF1.out], ?_⟩
       (repeat (first | with_reducible assumption | (with_reducible exact Keeps.refl _ _) | (with_reducible refine Keeps.drew ?_) | (with_reducible refine Keeps.alloc ?_ _) | (with_reducible refine Keeps.setCell ?_ (by first | exact Or.inl rfl | exact Or.inr (Nat.le_refl _) | exact Or.inr (Nat.le_succ _) | exact Or.inr (by first | (simp; done) | (simp; omega))) _))))
  have hF1 := hF.out
  rw [if_neg hl0, scan_p hl0 _ (.on at0)] at hF1
  obtain ⟨O, hO⟩ : ∃ O, scan d up sl follow l at0 n (.on at0) = O := ⟨_, rfl⟩
  rw [hO] at hF1
  have hlen : 1 <= l.length := List.length_pos_iff.2 hl0
  have hl0' : ((l.length : Int) == 0) = false := beq_eq_false_iff_ne.2 (by omega)
  have hcl := hsl0.cap
  have hml := hsl0.max
  unfold maxLen at hml
  replace hO := Lib.hid hO
  replace hF1 := Lib.hid hF1
  have hbp : w.heap.size + 1 < w2.heap.size := KB.lt
  clear hF hiso hl0
  go_upto_region 14 with fail
  have CC : WayC w (w2.alloc (.cells #[.int .i64 at0, .int .i64 0, .string ⟨#[]⟩] 129)) w2.heap.size p d.length c room (.on at0) :=
   ⟨hkz.alloc _, by simp; omega, (((Keeps.refl NoB w2).alloc _).cell (p := ⟨w.heap.size, 0, none⟩) DL (fun h => h)).trans D0, (((Keeps.refl NoB w2).alloc _).cell (p := ⟨w.heap.size, 1, none⟩) DL (fun h => h)).trans D1, KB.on ((Keeps.refl NoB w2).alloc _), c3_new (Keeps.refl NoB _)⟩
  have hrow := hsl0.keepN ((Keeps.refl NoB w2).alloc (.cells #[.int .i64 at0, .int .i64 0, .string ⟨#[]⟩] 129))
  have hrow2 : SlAt encStr (fun g => g ≠ w2.heap.size) (w2.alloc (.cells #[.int .i64 at0, .int .i64 0, .string ⟨#[]⟩] 129)) p1 c1 l := SlAt.keepS hsl0 ((Keeps.refl NoB w2).alloc _) (fun _ _ _ h => h) (fun g _ hl => by omega)
  rw [hat0] at CC hrow2
  clear hkz KB D0 D1 DL hrow hsl0
  first
  | (
    have _ : at0 = 1 := hat0
    generalize w2.alloc (.cells #[.int .i64 1, .int .i64 0, .string ⟨#[]⟩] 129) = w3 at *)
  | generalize w2.alloc (.cells #[.int .i64 from', .int .i64 0, .string ⟨#[]⟩] 129) = w3 at *
  rw [<- hat0] at CC
  generalize w2.heap.size = bp at *
  go_wp2_with fail
  (try rw [hl0'])
  go_loopw [4, 17] (fun v4 i wr => ∃ (k n' : Nat) (q : Plc), v4 = .int .i64 n' ∧ i = .int .i64 k ∧ WayI d up sl follow O l w wr bp p p1 c c1 room k n n' q) (fun _ i _ => l.length - (intOf i).toNat)
  case atStart => exact ⟨0, n, .on at0, rfl, rfl, ⟨Nat.zero_le _, h40, Nat.le_refl _, CC, hrow2, fun h => absurd rfl h, .inr ⟨fun h => absurd rfl h, by rw [List.drop_zero]; exact hO.out⟩⟩⟩
  case round =>
   obtain ⟨k, n', q, rfl, rfl, J⟩ := hrel
   clear CC hrow2 hO
   have hk := J.le
   have hn4 := J.n40
   have hn0 := J.n0
   have CC := J.cs
   by_cases hlt : k < l.length
   ·have D0 := CC.d0; have D1 := CC.d1; have DL := CC.lt; have B0 := CC.box.c0; have B1 := CC.box.c1; have B2 := CC.box.c2; have FB := CC.box.fz; have P0 := CC.pbox.c0; have P1 := CC.pbox.c1; have P2 := CC.pbox.c2; have FP := CC.pbox.fz; have zlt := CC.box.lt; have zlp := CC.pbox.lt; have k0 := CC.keeps
    by_cases hA : k ≠ 0 ∧ q.node = 0
    ·have hO : O = .err 12 := by
      rcases J.eq with ⟨_, _, _, h⟩ | ⟨h, _⟩
      ·exact h
      ·have := h hA.1 hA.2; omega
     subst hO
     have hk1 : (0 : Int) < (k : Int) := by omega
     have hb : (q.node == 0) = true := by simpa using hA.2
     clear J hA
     go_upto_region 18 with fail
     (repeat go_step)
     (try simp only [Exit.inBlock, Exit.then])
     refine bodyPost_ret (v := .tuple #[plcV .no, .int .i64 12]) ?_ rfl ?_
     ·rw [results_cell_tmp rfl]; unfold plcV Plc.no; go_simp
     ·refine ⟨by rw [<- hF1.out], ?_⟩
      (repeat (first | with_reducible assumption | (with_reducible exact Keeps.refl _ _) | (with_reducible refine Keeps.drew ?_) | (with_reducible refine Keeps.alloc ?_ _) | (with_reducible refine Keeps.setCell ?_ (by first | exact Or.inl rfl | exact Or.inr (Nat.le_refl _) | exact Or.inr (Nat.le_succ _) | exact Or.inr (by first | (simp; done) | (simp; omega))) _)))
    ·have hsc : scan d up sl follow (l.drop k) q.node n' q = O := by
      rcases J.eq with ⟨h1, h2, _, _⟩ | ⟨_, h⟩
      ·exact absurd ⟨h1, h2⟩ hA
      ·exact h
     have hcs : ¬ (0 : Int) < (k : Int) ∨ ((0 : Int) < (k : Int) ∧ (q.node == 0) = false) := by
      by_cases h0 : k = 0
      ·exact .inl (by omega)
      ·exact .inr ⟨by omega, by simpa using fun h => hA ⟨h0, h⟩⟩
     obtain ⟨x, hx⟩ : ∃ x, l[k]? = some x := ⟨_, List.getElem?_eq_getElem hlt⟩
     obtain ⟨gb, off, rfl, hS, hg, c0⟩ := J.row.str hx
     rw [List.drop_eq_getElem_cons hlt, show l[k] = x from Option.some.inj ((List.getElem?_eq_getElem hlt).symm.trans hx), scan_cons] at hsc
     obtain ⟨fl, hfl⟩ : ∃ fl, fl = (!(l.drop (k + 1)).isEmpty || sl || follow) := ⟨_, rfl⟩
     rw [<- hfl] at hsc
     replace hfl := Lib.hid hfl
     have HI1 := Lib.hid (HIn.out wr CC.keeps q.node)
     have HJr := Lib.hid J.row
     have hxn : ¬ x = ⟨#[]⟩ := HN.out x (List.mem_of_getElem? hx)
     clear J hx hA
     go_upto_region 17 with fail
     go_cut [66] from 60 to 66 (fun v wx => v = .bool false ∧ wr = wx)
     case first =>
      rcases hcs with hc1 | ⟨hc1, hc2⟩
      all_goals (go_wp2_with fail; go_meet; exact ⟨rfl, rfl⟩)
     case rest =>
     obtain ⟨rfl, hwr⟩ := hcut
     subst hwr
     clear hcs
     by_cases hin : intoErr d q.node ≠ 0
     ·have hst : stepR d up q.node x fl n' = ⟨.no, ⟨#[]⟩, intoErr d q.node, n'⟩ := by unfold stepR; rw [if_pos hin]
      rw [hst, if_pos hin] at hsc
      subst hsc
      have hne : (intoErr d q.node != 0) = true := by simpa using hin
      clear hst hin
      generalize intoErr d q.node = ie at *
      go_upto_region 22 with (first | (go_at_call 237; go_loud (refine HI1.out.mono ?_); rintro e w5 ⟨rfl, hk5⟩; have CD := CC.on hk5; clear D0 D1 DL B0 B1 B2 FB P0 P1 P2 FP zlt zlp k0; clear CC; have CC := CD; have D0 := CC.d0; have D1 := CC.d1; have DL := CC.lt; have B0 := CC.box.c0; have B1 := CC.box.c1; have B2 := CC.box.c2; have FB := CC.box.fz; have P0 := CC.pbox.c0; have P1 := CC.pbox.c1; have P2 := CC.pbox.c2; have FP := CC.pbox.fz; have zlt := CC.box.lt; have zlp := CC.pbox.lt; have k0 := CC.keeps))
      (repeat go_step)
      (try simp only [Exit.inBlock, Exit.then])
      refine bodyPost_ret (v := .tuple #[plcV .no, .int .i64 ie]) ?_ rfl ?_
      ·rw [results_cell_tmp rfl]; unfold plcV Plc.no; go_simp
      ·refine ⟨by rw [<- hF1.out], ?_⟩
       (repeat (first | with_reducible assumption | (with_reducible exact Keeps.refl _ _) | (with_reducible refine Keeps.drew ?_) | (with_reducible refine Keeps.alloc ?_ _) | (with_reducible refine Keeps.setCell ?_ (by first | exact Or.inl rfl | exact Or.inr (Nat.le_refl _) | exact Or.inr (Nat.le_succ _) | exact Or.inr (by first | (simp; done) | (simp; omega))) _)))
     have hin0 : intoErr d q.node = 0 := Classical.not_not.1 hin
     obtain ⟨P, hP⟩ : ∃ P, partP d up q.node x = P := ⟨_, rfl⟩
     have hhas := part_has hI HUp.out hin0 x
     have hQ := stepR_part (up := up) (fl := fl) hI hn4 hxn hin0 P hP
     obtain ⟨Q, hQ0⟩ : ∃ Q, stepR d up q.node x fl n' = Q := ⟨_, rfl⟩
     rw [hQ0] at hsc hQ
     clear hQ0
     have HPt := Lib.hid (fun (wx : World) (kx : Keeps NoB w wx) => r5part_any (room := room) (h.keepN kx) hI hs HUp.out q.node (into_folder hin0) x)
     rw [hP] at HPt hhas
     rw [hin0] at HI1
     unfold plcV refV at HPt
     replace hsc := Lib.hid hsc
     replace hhas := Lib.hid hhas
     clear hP hin0 hin
     obtain ⟨⟨nx, dx, nm⟩, pe⟩ := P
     simp only at HPt hhas hQ
     replace hQ := Lib.hid hQ
     go_upto_region 23 with (first | (go_at_call 237; go_loud (refine HI1.out.mono ?_); rintro e w5 ⟨rfl, hk5⟩; have CD := CC.on hk5; clear D0 D1 DL B0 B1 B2 FB P0 P1 P2 FP zlt zlp k0; clear CC; have CC := CD; have D0 := CC.d0; have D1 := CC.d1; have DL := CC.lt; have B0 := CC.box.c0; have B1 := CC.box.c1; have B2 := CC.box.c2; have FB := CC.box.fz; have P0 := CC.pbox.c0; have P1 := CC.pbox.c1; have P2 := CC.pbox.c2; have FP := CC.pbox.fz; have zlt := CC.box.lt; have zlp := CC.pbox.lt; have k0 := CC.keeps))
     have c5 := (hk5.cell (p := ⟨gb, off + k, none⟩) hg (fun h => h)).trans c0
     have hg5 : gb < w5.heap.size := Nat.lt_of_lt_of_le hg hk5.size
     have hrow5 := HJr.out.keepN hk5
     clear c0 hg HI1 HJr hk5
     go_cut [20, 21] from 78 to 86 (fun t20 t21 wx => ∃ bq : Nat, t20 = .pointer (some ⟨bq, 0, none⟩) ∧ t21 = .int .i64 pe ∧ bp < bq ∧ C3 wx bq (.int .i64 nx) (.int .i64 dx) (.string nm) ∧ Keeps NoB w5 wx)
     case first =>
      have kr := Keeps.refl NoB w5
      have krd := kr.drew
      have CD := CC.on krd
      have d0 := CD.d0
      have d1 := CD.d1
      have dl := CD.lt
      have cx := (krd.cell (p := ⟨gb, off + k, none⟩) hg5 (fun h => h)).trans c5
      go_region_held3 (fun wz => wz.cell? ⟨w.heap.size, 0, none⟩ = some (.slice p d.length c) ∧ wz.cell? ⟨w.heap.size, 1, none⟩ = some (.int .i64 room) ∧ wz.cell? ⟨gb, off + k, none⟩ = some (.string x) ∧ Keeps NoB w5 wz)
       (refine ⟨?_, ?_, ?_, ?_⟩ <;> first | with_reducible assumption | (with_reducible refine (CC.on ?_).d0; (repeat (first | with_reducible assumption | (with_reducible exact Keeps.refl _ _) | (with_reducible refine Keeps.drew ?_) | (with_reducible refine Keeps.alloc ?_ _) | (with_reducible refine Keeps.setCell ?_ (by first | exact Or.inl rfl | exact Or.inr (Nat.le_refl _) | exact Or.inr (Nat.le_succ _) | exact Or.inr (by first | (simp; done) | (simp; omega))) _))); done) | (with_reducible refine (CC.on ?_).d1; (repeat (first | with_reducible assumption | (with_reducible exact Keeps.refl _ _) | (with_reducible refine Keeps.drew ?_) | (with_reducible refine Keeps.alloc ?_ _) | (with_reducible refine Keeps.setCell ?_ (by first | exact Or.inl rfl | exact Or.inr (Nat.le_refl _) | exact Or.inr (Nat.le_succ _) | exact Or.inr (by first | (simp; done) | (simp; omega))) _))); done) | (with_reducible refine (Keeps.cell (F := NoB) (w := w5) (p := ⟨gb, off + k, none⟩) ?_ hg5 (fun h => h)).trans c5; (repeat (first | with_reducible assumption | (with_reducible exact Keeps.refl _ _) | (with_reducible refine Keeps.drew ?_) | (with_reducible refine Keeps.alloc ?_ _) | (with_reducible refine Keeps.setCell ?_ (by first | exact Or.inl rfl | exact Or.inr (Nat.le_refl _) | exact Or.inr (Nat.le_succ _) | exact Or.inr (by first | (simp; done) | (simp; omega))) _))); done) | ((repeat (first | with_reducible assumption | (with_reducible exact Keeps.refl _ _) | (with_reducible refine Keeps.drew ?_) | (with_reducible refine Keeps.alloc ?_ _) | (with_reducible refine Keeps.setCell ?_ (by first | exact Or.inl rfl | exact Or.inr (Nat.le_refl _) | exact Or.inr (Nat.le_succ _) | exact Or.inr (by first | (simp; done) | (simp; omega))) _))); done))
       (first | (go_at_call 238; refine (HPt.out _ (CC.keeps.trans (by (repeat (first | with_reducible assumption | (with_reducible exact Keeps.refl _ _) | (with_reducible refine Keeps.drew ?_) | (with_reducible refine Keeps.alloc ?_ _) | (with_reducible refine Keeps.setCell ?_ (by first | exact Or.inl rfl | exact Or.inr (Nat.le_refl _) | exact Or.inr (Nat.le_succ _) | exact Or.inr (by first | (simp; done) | (simp; omega))) _)))))).mono ?_; rintro e w6 ⟨rfl, hk6⟩; have zk : Keeps NoB w5 w6 := Keeps.trans (by (repeat (first | with_reducible assumption | (with_reducible exact Keeps.refl _ _) | (with_reducible refine Keeps.drew ?_) | (with_reducible refine Keeps.alloc ?_ _) | (with_reducible refine Keeps.setCell ?_ (by first | exact Or.inl rfl | exact Or.inr (Nat.le_refl _) | exact Or.inr (Nat.le_succ _) | exact Or.inr (by first | (simp; done) | (simp; omega))) _)))) hk6; have z0 := (CC.on zk).d0; have z1 := (CC.on zk).d1; have zp := (CC.on zk).pbox.lt; have zx := (zk.cell (p := ⟨gb, off + k, none⟩) hg5 (fun h => h)).trans c5; (try (first | (with_reducible have b0 := boxedD hk6 0 _ rfl; with_reducible have b1 := boxedD hk6 1 _ rfl; with_reducible have b2 := boxedD hk6 2 _ rfl; with_reducible have f0 := boxedF hk6) | (with_reducible have b0 := boxed hk6 0 _ rfl; with_reducible have b1 := boxed hk6 1 _ rfl; with_reducible have b2 := boxed hk6 2 _ rfl; with_reducible have f0 := boxedz hk6)))))
      all_goals (go_wp2_with fail; go_meet; refine ⟨_, rfl, rfl, ?_, ?_, ?_⟩)
      all_goals first
       | (with_reducible exact zp)
       | (with_reducible exact CC.pbox.lt)
       | (with_reducible exact c3_new (Keeps.refl NoB _))
       | (with_reducible exact C3.set ⟨Nat.lt_of_lt_of_le (by simp) hk6.size, b0, b1, b2, f0⟩ _ _ _)
       | ((repeat (first | with_reducible assumption | (with_reducible exact Keeps.refl _ _) | (with_reducible refine Keeps.drew ?_) | (with_reducible refine Keeps.alloc ?_ _) | (with_reducible refine Keeps.setCell ?_ (by first | exact Or.inl rfl | exact Or.inr (Nat.le_refl _) | exact Or.inr (Nat.le_succ _) | exact Or.inr (by first | (simp; done) | (simp; omega))) _))); done)
       | trace_state
     case rest =>
      obtain ⟨bq, rfl, rfl, hbq, KQ, hk6⟩ := hcut
      have CD := CC.on hk6
      have hrow6 := hrow5.keepN hk6
      clear D0 D1 DL B0 B1 B2 FB P0 P1 P2 FP zlt zlp k0
      clear CC c5 hg5 hrow5 HPt
      have CC := CD
      clear CD
      have q0 := KQ.c0
      have q1 := KQ.c1
      have q2 := KQ.c2
      have ql := KQ.lt
      clear KQ hk6
      have D0 := CC.d0; have D1 := CC.d1; have DL := CC.lt; have B0 := CC.box.c0; have B1 := CC.box.c1; have B2 := CC.box.c2; have FB := CC.box.fz; have P0 := CC.pbox.c0; have P1 := CC.pbox.c1; have P2 := CC.pbox.c2; have FP := CC.pbox.fz; have zlt := CC.box.lt; have zlp := CC.pbox.lt; have k0 := CC.keeps
      by_cases hpe : pe ≠ 0
      ·have e := hQ.out
       rw [if_pos hpe] at e
       subst e
       have hO := hsc.out
       rw [if_pos hpe] at hO
       subst hO
       have hb : (pe != 0) = true := by simpa using hpe
       clear hsc hQ hhas
       go_upto_region 25 with fail
       (repeat go_step)
       (try simp only [Exit.inBlock, Exit.then])
       refine bodyPost_ret (v := .tuple #[plcV .no, .int .i64 pe]) ?_ rfl ?_
       ·rw [results_cell_tmp rfl]; unfold plcV Plc.no; go_simp
       ·refine ⟨by rw [<- hF1.out], ?_⟩
        (repeat (first | with_reducible assumption | (with_reducible exact Keeps.refl _ _) | (with_reducible refine Keeps.drew ?_) | (with_reducible refine Keeps.alloc ?_ _) | (with_reducible refine Keeps.setCell ?_ (by first | exact Or.inl rfl | exact Or.inr (Nat.le_refl _) | exact Or.inr (Nat.le_succ _) | exact Or.inr (by first | (simp; done) | (simp; omega))) _)))
      have hpe0 : pe = 0 := Classical.not_not.1 hpe
      have hQ1 := hQ.out
      rw [if_neg hpe] at hQ1
      have hhas1 := hhas.out hpe0
      subst hpe0
      clear hQ hhas hpe
      go_upto_region 27 with fail
      have C5 := CC.put hbp ⟨nx, dx, nm⟩
      have r5 := hrow6.keep (keeps_put _ bp (.int .i64 nx) (.int .i64 dx) (.string nm)) (fun g (hg : g ≠ bp) _ e => hg e)
      clear D0 D1 DL B0 B1 B2 FB P0 P1 P2 FP zlt zlp k0
      clear q0 q1 q2 ql hrow6 CC
      have CC := C5
      clear C5
      simp only at CC r5
      generalize (((wc.setCell ⟨bp, 0, none⟩ (.int .i64 nx)).setCell ⟨bp, 1, none⟩ (.int .i64 dx)).setCell ⟨bp, 2, none⟩ (.string nm)) = w7 at *
      have hgc := goes_cases2 k l sl follow fl hlt hfl.out
      obtain ⟨sk, hsk⟩ : ∃ sk : Bool, sk = sl := ⟨_, rfl⟩
      obtain ⟨fk, hfk⟩ : ∃ fk : Bool, fk = fl := ⟨_, rfl⟩
      have hF2 := hF1.out
      have hsc1 := hsc.out
      clear hF1 hsc
      rw [<- hsk] at hsc1 hF2
      rw [<- hfk] at hQ1
      replace hsk := Lib.hid hsk
      replace hfk := Lib.hid hfk
      replace hQ1 := Lib.hid hQ1
      have hsc := Lib.hid hsc1
      have hF1 := Lib.hid hF2
      clear hsc1 hF2 hfl
      have hC : nm = ⟨#[]⟩ ∨ (nm ≠ ⟨#[]⟩ ∧ nx = 0) ∨ (nm ≠ ⟨#[]⟩ ∧ nx ≠ 0 ∧ fk = false) ∨ (nm ≠ ⟨#[]⟩ ∧ nx ≠ 0 ∧ fk = true ∧ (nd d nx).kind ≠ 3) ∨ (nm ≠ ⟨#[]⟩ ∧ nx ≠ 0 ∧ fk = true ∧ (nd d nx).kind = 3) := by
       by_cases g1 : nm = ⟨#[]⟩
       ·exact .inl g1
       by_cases g2 : nx = 0
       ·exact .inr (.inl ⟨g1, g2⟩)
       cases hf : fk with
       | false => exact .inr (.inr (.inl ⟨g1, g2, rfl⟩))
       | true =>
        by_cases g3 : (nd d nx).kind = 3
        ·exact .inr (.inr (.inr (.inr ⟨g1, g2, rfl, g3⟩)))
        ·exact .inr (.inr (.inr (.inl ⟨g1, g2, rfl, g3⟩)))
      have D0 := CC.d0; have D1 := CC.d1; have DL := CC.lt; have B0 := CC.box.c0; have B1 := CC.box.c1; have B2 := CC.box.c2; have FB := CC.box.fz; have P0 := CC.pbox.c0; have P1 := CC.pbox.c1; have P2 := CC.pbox.c2; have FP := CC.pbox.fz; have zlt := CC.box.lt; have zlp := CC.pbox.lt; have k0 := CC.keeps
      go_cut [22] from 92 to 102 (fun v wx => v = .bool fl ∧ w7 = wx)
      case first =>
       rcases hgc with ⟨hb, rfl⟩ | ⟨hb, rfl, rfl⟩ | ⟨hb, rfl, rfl⟩
       all_goals (go_wp2_with fail; go_meet; exact ⟨rfl, rfl⟩)
      case rest =>
      obtain ⟨rfl, hw7⟩ := hcut
      subst hw7
      clear hgc
      rcases hC with g1 | ⟨g1, g2⟩ | ⟨g1, g2, g3⟩ | ⟨g1, g2, g3, g4⟩ | ⟨g1, g2, g3, g4⟩
      ·have hQ2 := hQ1.out
       rw [if_neg (fun h => h.1 g1)] at hQ2
       (subst hQ2; (have hO := hsc.out); rw [if_neg (show ¬ ((0 : Int) ≠ 0) by simp), if_neg (show ¬ ((⟨#[]⟩ : ByteArray) ≠ ⟨#[]⟩) by simp)] at hO; (have hnx := Lib.hid (way_next hlt hO)); clear hO hsc hQ1)
       subst g1
       (go_upto_region 16 with fail; (repeat go_step); refine ⟨⟨k + 1, n', _, rfl, by go_num, ⟨by omega, hn4, hn0, CC, r5, fun _ => hhas1, ?_⟩⟩, ?_⟩; ((have hx := hnx.out); rw [hsk.out] at hx; exact hx); (simp [intOf]; omega))
      ·have hQ2 := hQ1.out
       rw [if_neg (fun h => h.2.1 g2)] at hQ2
       (subst hQ2; (have hO := hsc.out); rw [if_neg (show ¬ ((0 : Int) ≠ 0) by simp), if_neg (show ¬ ((⟨#[]⟩ : ByteArray) ≠ ⟨#[]⟩) by simp)] at hO; (have hnx := Lib.hid (way_next hlt hO)); clear hO hsc hQ1)
       have hne := notEmpty_eq g1
       have hbn : (nx != 0) = false := by simpa using g2
       clear g1 g2
       (go_upto_region 16 with fail; (repeat go_step); refine ⟨⟨k + 1, n', _, rfl, by go_num, ⟨by omega, hn4, hn0, CC, r5, fun _ => hhas1, ?_⟩⟩, ?_⟩; ((have hx := hnx.out); rw [hsk.out] at hx; exact hx); (simp [intOf]; omega))
      ·have hQ2 := hQ1.out
       rw [if_neg (fun h => by rw [g3] at h; exact absurd h.2.2.1 (by simp))] at hQ2
       have g5 := hfk.out.symm.trans g3
       first
       | (cases g5; done)
       | (
         cases g5
         (subst hQ2; (have hO := hsc.out); rw [if_neg (show ¬ ((0 : Int) ≠ 0) by simp), if_neg (show ¬ ((⟨#[]⟩ : ByteArray) ≠ ⟨#[]⟩) by simp)] at hO; (have hnx := Lib.hid (way_next hlt hO)); clear hO hsc hQ1)
         have hne := notEmpty_eq g1
         have hbn : (nx != 0) = true := by simpa using g2
         clear g1 g2
         (go_upto_region 16 with fail; (repeat go_step); refine ⟨⟨k + 1, n', _, rfl, by go_num, ⟨by omega, hn4, hn0, CC, r5, fun _ => hhas1, ?_⟩⟩, ?_⟩; ((have hx := hnx.out); rw [hsk.out] at hx; exact hx); (simp [intOf]; omega)))
      ·have hQ2 := hQ1.out
       rw [if_neg (fun h => g4 h.2.2.2)] at hQ2
       have g5 := hfk.out.symm.trans g3
       cases g5
       (subst hQ2; (have hO := hsc.out); rw [if_neg (show ¬ ((0 : Int) ≠ 0) by simp), if_neg (show ¬ ((⟨#[]⟩ : ByteArray) ≠ ⟨#[]⟩) by simp)] at hO; (have hnx := Lib.hid (way_next hlt hO)); clear hO hsc hQ1)
       have hne := notEmpty_eq g1
       have hbn : (nx != 0) = true := by simpa using g2
       (have hh := hhas1 g2; obtain ⟨kk, hkk0, hkk⟩ := has_nat hh; subst hkk0; obtain ⟨gr, offr, q', m', hpr, hSr, hrow0⟩ := h.rowAt hkk; subst hpr; have hgl := hrow0.lt; have hrow := hrow0.keepN CC.keeps; have rc0 := hrow.c0; have rc3 := hrow.c3; have rlt := hrow.lt; clear hh)
       have hk3 : ((nd d kk).kind == 3) = false := by simpa using g4
       clear g1 g2 g4
       (go_upto_region 16 with fail; (repeat go_step); refine ⟨⟨k + 1, n', _, rfl, by go_num, ⟨by omega, hn4, hn0, CC, r5, fun _ => hhas1, ?_⟩⟩, ?_⟩; ((have hx := hnx.out); rw [hsk.out] at hx; exact hx); (simp [intOf]; omega))
      ·have hQ2 := hQ1.out
       rw [if_pos ⟨g1, g2, g3, g4⟩] at hQ2
       have g5 := hfk.out.symm.trans g3
       cases g5
       have hne := notEmpty_eq g1
       have hbn : (nx != 0) = true := by simpa using g2
       (have hh := hhas1 g2; obtain ⟨kk, hkk0, hkk⟩ := has_nat hh; subst hkk0; obtain ⟨gr, offr, q', m', hpr, hSr, hrow0⟩ := h.rowAt hkk; subst hpr; have hgl := hrow0.lt; have hrow := hrow0.keepN CC.keeps; have rc0 := hrow.c0; have rc3 := hrow.c3; have rlt := hrow.lt; clear hh)
       have hk3 : ((nd d kk).kind == 3) = true := by simpa using g4
       clear g1 g2 g4
       by_cases h4 : n' = 40
       ·rw [if_pos h4] at hQ2
        subst hQ2
        have hO := hsc.out
        rw [if_pos (show (17 : Int) ≠ 0 by decide)] at hO
        subst hO
        have hb4 : ((n' : Int) == 40) = true := by simp; omega
        clear hsc hQ1
        go_upto_region 30 with fail
        (repeat go_step)
        (try simp only [Exit.inBlock, Exit.then])
        refine bodyPost_ret (v := .tuple #[plcV .no, .int .i64 17]) ?_ rfl ?_
        ·rw [results_cell_tmp rfl]; unfold plcV Plc.no; go_simp
        ·refine ⟨by rw [<- hF1.out], ?_⟩
         (repeat (first | with_reducible assumption | (with_reducible exact Keeps.refl _ _) | (with_reducible refine Keeps.drew ?_) | (with_reducible refine Keeps.alloc ?_ _) | (with_reducible refine Keeps.setCell ?_ (by first | exact Or.inl rfl | exact Or.inr (Nat.le_refl _) | exact Or.inr (Nat.le_succ _) | exact Or.inr (by first | (simp; done) | (simp; omega))) _)))
       ·rw [if_neg h4] at hQ2
        subst hQ2
        have hb4 : ((n' : Int) == 40) = false := by simp; omega
        by_cases hd : (nd d kk).data = ⟨#[]⟩
        ·have hO := hsc.out
         rw [if_neg (show ¬ ((0 : Int) ≠ 0) by simp), if_neg (fun h => h hd)] at hO
         have hnx := Lib.hid (way_next hlt hO)
         clear hO hsc hQ1
         rw [hd] at rc3
         go_upto_region 16 with fail
         (repeat go_step)
         refine ⟨⟨k + 1, n' + 1, _, by go_num, by go_num, ⟨by omega, by omega, by omega, CC, r5, fun _ => hhas1, ?_⟩⟩, ?_⟩
         ·have hx := hnx.out; rw [hsk.out] at hx; exact hx
         ·simp [intOf]; omega
        ·have hO := hsc.out
         rw [if_neg (show ¬ ((0 : Int) ≠ 0) by simp), if_pos hd] at hO
         subst hO
         have hF3 := hF1.out
         simp only at hF3
         have hdn := notEmpty_eq hd
         have hds := (hI.node kk).data
         have hrs := restB_size (nd d kk).data (l.drop (k + 1)) sk 4095 (fun y hy => HZ.out y (List.mem_of_mem_drop hy))
         have hld : (l.drop (k + 1)).length = l.length - (k + 1) := by simp
         rw [hld] at hrs
         have hrz : (restB (nd d kk).data (l.drop (k + 1)) sk).size <= 4294967280 := by
          have : (l.length - (k + 1)) * (4095 + 1) <= 4096 * 4096 := Nat.mul_le_mul (by omega) (by omega)
          omega
         have hslc2 : ∀ wx : World, (Instr.slice 40 (.slice (some ⟨gb, off, none⟩) l.length c1) (some (.int .i64 ((k : Int) + 1))) none none).run Tryz.prog wx = .ok (.slice (subAt 1 (some ⟨gb, off, none⟩) c1 (k + 1)) (l.length - (k + 1)) (c1 - (k + 1))) wx :=
          fun wx => run_slice_l (P := Tryz.prog) 40 9 1 Tryz.underlying40 (by kernel_rfl) (some ⟨gb, off, none⟩) l.length c1 (k + 1) (by omega) wx (by omega)
         have hsub := r5.sub (k + 1) l.length (by omega) (Nat.le_refl _)
         rw [List.take_length] at hsub
         have HRe := fun (wz : World) (kz : Keeps NoB w7 wz) => r5joined_any _ wz _ _ _ (hsub.keepN kz) (nd d kk).data sk hd (fun y hy => HN.out y (List.mem_of_mem_drop hy)) (fun y hy => HZ.out y (List.mem_of_mem_drop hy)) (by omega) (by omega)
         simp only [hld, show encStr.k = 1 from rfl] at HRe
         obtain ⟨s2, hs2'⟩ : ∃ s2, restB (nd d kk).data (l.drop (k + 1)) sk = s2 := ⟨_, rfl⟩
         rw [hs2'] at hF3 hrz
         simp only [hs2'] at HRe
         simp only [hsk.out] at HRe
         have HIH := fun (wz : World) (kz : Keeps NoB w wz) => IH.out S wz _ c (h.keepN kz) q.node s2 (n' + 1) hrz (by omega) (by omega)
         have hcast : ((n' + 1 : Nat) : Int) = (n' : Int) + 1 := by omega
         simp only [hF3, hcast] at HIH
         clear hcast
         obtain ⟨⟨Fn, Fd, Fm⟩, Fe⟩ := F
         unfold plcV refV at HIH
         simp only at HIH
         replace HIH := Lib.hid HIH
         replace HRe := Lib.hid HRe
         have hw1 : IntKind.i64.wrap ((k : Int) + 1) = (k : Int) + 1 := by rw [IntKind.wrap_i64]; omega
         have hw2 : IntKind.i64.wrap ((n' : Int) + 1) = (n' : Int) + 1 := by rw [IntKind.wrap_i64]; omega
         have hi1 : (0 : Int) <= (k : Int) + 1 := by omega
         have hi2 : (k : Int) + 1 <= (l.length : Int) := by omega
         have hi3 : (l.length : Int) <= (c1 : Int) := by omega
         have hi4 : (0 : Int) <= (kk : Int) := by omega
         have hi5 : (kk : Int) < (d.length : Int) := by omega
         clear hs2' hF3 hrz hsub hrs hld hds hd hsc hQ1 hF1
         go_upto_region 32 with fail
         go_cut [11] from 135 to 155 (fun y wx => y = .int .i64 Fe ∧ C3 wx (w.heap.size + 1) (.int .i64 Fn) (.int .i64 Fd) (.string Fm) ∧ Keeps NoB w wx)
         case first =>
          have kr := Keeps.refl NoB w7
          have krd := kr.drew
          have CD := CC.on krd
          have d0 := CD.d0
          have d1 := CD.d1
          have d2 := CD.pbox.c0
          have d3 := (hrow.keepN krd).c3
          have dl := CD.lt
          have kwd := CD.keeps
          go_region_held3 (fun wz => wz.cell? ⟨w.heap.size, 0, none⟩ = some (.slice (some ⟨gr, offr, none⟩) d.length c) ∧ wz.cell? ⟨w.heap.size, 1, none⟩ = some (.int .i64 room) ∧ wz.cell? ⟨bp, 0, none⟩ = some (.int .i64 kk) ∧ wz.cell? ⟨gr, offr + kk * 5 + 3, none⟩ = some (.string (nd d kk).data) ∧ Keeps NoB w wz)
           (refine ⟨?_, ?_, ?_, ?_, ?_⟩ <;> first | with_reducible assumption | (with_reducible exact way_box (by assumption) _ _ _) | (with_reducible refine way_cell ?_ ?_ _ _ _ <;> first | with_reducible assumption | omega) | ((repeat (first | with_reducible assumption | (with_reducible exact Keeps.refl _ _) | (with_reducible refine Keeps.drew ?_) | (with_reducible refine Keeps.alloc ?_ _) | (with_reducible refine Keeps.setCell ?_ (by first | exact Or.inl rfl | exact Or.inr (Nat.le_refl _) | exact Or.inr (Nat.le_succ _) | exact Or.inr (by first | (simp; done) | (simp; omega))) _))); done))
           (first
            | (go_at_call 239; refine (HRe.out _ (by (repeat (first | with_reducible assumption | (with_reducible exact Keeps.refl _ _) | (with_reducible refine Keeps.drew ?_) | (with_reducible refine Keeps.alloc ?_ _) | (with_reducible refine Keeps.setCell ?_ (by first | exact Or.inl rfl | exact Or.inr (Nat.le_refl _) | exact Or.inr (Nat.le_succ _) | exact Or.inr (by first | (simp; done) | (simp; omega))) _))))).mono ?_; rintro e w8 ⟨rfl, zw⟩; subst zw)
            | (go_at_call 180; refine (HIH.out _ (by (repeat (first | with_reducible assumption | (with_reducible exact Keeps.refl _ _) | (with_reducible refine Keeps.drew ?_) | (with_reducible refine Keeps.alloc ?_ _) | (with_reducible refine Keeps.setCell ?_ (by first | exact Or.inl rfl | exact Or.inr (Nat.le_refl _) | exact Or.inr (Nat.le_succ _) | exact Or.inr (by first | (simp; done) | (simp; omega))) _))))).mono ?_; rintro e w9 ⟨rfl, hk9⟩; have zk : Keeps NoB w7 w9 := Keeps.trans (by (repeat (first | with_reducible assumption | (with_reducible exact Keeps.refl _ _) | (with_reducible refine Keeps.drew ?_) | (with_reducible refine Keeps.alloc ?_ _) | (with_reducible refine Keeps.setCell ?_ (by first | exact Or.inl rfl | exact Or.inr (Nat.le_refl _) | exact Or.inr (Nat.le_succ _) | exact Or.inr (by first | (simp; done) | (simp; omega))) _)))) hk9; have CZ := CC.on zk; have z0 := CZ.d0; have z1 := CZ.d1; have z2 := CZ.pbox.c0; have z3 := (hrow.keepN zk).c3; have z4 := (hrow.keepN zk).lt; have z5 := CZ.lt; have z6 := CZ.pbox.lt; have z7 := CZ.keeps; have y0 := CZ.box.c0; have y1 := CZ.box.c1; have y2 := CZ.box.c2; have yf := CZ.box.fz; have yl := CZ.box.lt))
          all_goals (go_wp2_with fail; go_meet; refine ⟨rfl, ?_, ?_⟩)
          all_goals first
           | (with_reducible exact C3.set CZ.box _ _ _)
           | (with_reducible exact way_box z7 _ _ _)
           | ((repeat (first | with_reducible assumption | (with_reducible exact Keeps.refl _ _) | (with_reducible refine Keeps.drew ?_) | (with_reducible refine Keeps.alloc ?_ _) | (with_reducible refine Keeps.setCell ?_ (by first | exact Or.inl rfl | exact Or.inr (Nat.le_refl _) | exact Or.inr (Nat.le_succ _) | exact Or.inr (by first | (simp; done) | (simp; omega))) _))); done)
           | trace_state
         case rest =>
          obtain ⟨rfl, hbx, hkx⟩ := hcut
          clear D0 D1 DL B0 B1 B2 FB P0 P1 P2 FP zlt zlp k0
          have B0 := hbx.c0
          have B1 := hbx.c1
          have B2 := hbx.c2
          (repeat go_step)
          (try simp only [Exit.inBlock, Exit.then])
          refine bodyPost_ret (v := .tuple #[plcV ⟨Fn, Fd, Fm⟩, .int .i64 Fe]) ?_ rfl ?_
          ·rw [results_cell_tmp rfl]; unfold plcV; go_simp
          ·exact ⟨rfl, hkx⟩
   ·obtain rfl : k = l.length := by omega
    have hO : O = .fin q := by
     rcases J.eq with ⟨_, _, h, _⟩ | ⟨_, h⟩
     ·exact absurd h (Nat.lt_irrefl _)
     ·rw [List.drop_of_length_le (Nat.le_refl _)] at h
      exact h.symm
    subst hO
    have hth := J.there (by omega)
    have hF2 := hF1.out
    simp only at hF2
    unfold endR at hF2
    clear J hF1 HIn IH HUp HN HZ
    obtain ⟨nx, dx, nm⟩ := q
    simp only at hF2 hth
    have D0 := CC.d0; have D1 := CC.d1; have DL := CC.lt; have B0 := CC.box.c0; have B1 := CC.box.c1; have B2 := CC.box.c2; have FB := CC.box.fz; have P0 := CC.pbox.c0; have P1 := CC.pbox.c1; have P2 := CC.pbox.c2; have FP := CC.pbox.fz; have zlt := CC.box.lt; have zlp := CC.pbox.lt; have k0 := CC.keeps
    have hE : (sl = false ∨ (sl = true ∧ nx = 0)) ∨ (sl = true ∧ nx ≠ 0) := by
     cases sl with
     | false => exact .inl (.inl rfl)
     | true =>
      by_cases h0 : nx = 0
      ·exact .inl (.inr ⟨rfl, h0⟩)
      ·exact .inr ⟨rfl, h0⟩
    rcases hE with hE | ⟨g1, g2⟩
    ·have hE1 : sl = false ∨ nx = 0 := hE.elim .inl (fun h => .inr h.2)
     rw [if_pos hE1] at hF2
     replace hF2 := Lib.hid hF2
     clear hE1 hth
     rcases hE with g1 | ⟨g1, g2⟩
     ·subst g1
      (go_upto_region 36 with fail; (repeat go_step); (try simp only [Exit.inBlock, Exit.then]); refine bodyPost_ret (v := .tuple #[plcV ⟨nx, dx, nm⟩, .int .i64 0]) ?_ rfl ?_; (rw [results_cell_tmp rfl]; unfold plcV; go_simp); refine ⟨by rw [<- hF2.out], ?_⟩; (repeat (first | with_reducible assumption | (with_reducible exact Keeps.refl _ _) | (with_reducible refine Keeps.drew ?_) | (with_reducible refine Keeps.alloc ?_ _) | (with_reducible refine Keeps.setCell ?_ (by first | exact Or.inl rfl | exact Or.inr (Nat.le_refl _) | exact Or.inr (Nat.le_succ _) | exact Or.inr (by first | (simp; done) | (simp; omega))) _))))
     ·subst g1
      have hbn : (nx != 0) = false := by simpa using g2
      clear g2
      (go_upto_region 36 with fail; (repeat go_step); (try simp only [Exit.inBlock, Exit.then]); refine bodyPost_ret (v := .tuple #[plcV ⟨nx, dx, nm⟩, .int .i64 0]) ?_ rfl ?_; (rw [results_cell_tmp rfl]; unfold plcV; go_simp); refine ⟨by rw [<- hF2.out], ?_⟩; (repeat (first | with_reducible assumption | (with_reducible exact Keeps.refl _ _) | (with_reducible refine Keeps.drew ?_) | (with_reducible refine Keeps.alloc ?_ _) | (with_reducible refine Keeps.setCell ?_ (by first | exact Or.inl rfl | exact Or.inr (Nat.le_refl _) | exact Or.inr (Nat.le_succ _) | exact Or.inr (by first | (simp; done) | (simp; omega))) _))))
    ·rw [if_neg (fun h => h.elim (fun h => by rw [g1] at h; cases h) g2)] at hF2
     subst g1
     have hbn : (nx != 0) = true := by simpa using g2
     have hhas1 := hth
     (have hh := hhas1 g2; obtain ⟨kk, hkk0, hkk⟩ := has_nat hh; subst hkk0; obtain ⟨gr, offr, q', m', hpr, hSr, hrow0⟩ := h.rowAt hkk; subst hpr; have hgl := hrow0.lt; have hrow := hrow0.keepN CC.keeps; have rc0 := hrow.c0; have rc3 := hrow.c3; have rlt := hrow.lt; clear hh)
     clear g2
     by_cases hk2 : (nd d kk).kind = 2
     ·rw [if_neg (fun h => h hk2)] at hF2
      replace hF2 := Lib.hid hF2
      have hb2' : ((nd d kk).kind != 2) = false := by simpa using hk2
      clear hk2
      (go_upto_region 36 with fail; (repeat go_step); (try simp only [Exit.inBlock, Exit.then]); refine bodyPost_ret (v := .tuple #[plcV ⟨(kk : Int), dx, nm⟩, .int .i64 0]) ?_ rfl ?_; (rw [results_cell_tmp rfl]; unfold plcV; go_simp); refine ⟨by rw [<- hF2.out], ?_⟩; (repeat (first | with_reducible assumption | (with_reducible exact Keeps.refl _ _) | (with_reducible refine Keeps.drew ?_) | (with_reducible refine Keeps.alloc ?_ _) | (with_reducible refine Keeps.setCell ?_ (by first | exact Or.inl rfl | exact Or.inr (Nat.le_refl _) | exact Or.inr (Nat.le_succ _) | exact Or.inr (by first | (simp; done) | (simp; omega))) _))))
     ·rw [if_pos hk2] at hF2
      replace hF2 := Lib.hid hF2
      have hb2' : ((nd d kk).kind != 2) = true := by simpa using hk2
      clear hk2
      go_upto_region 35 with fail
      (repeat go_step)
      (try simp only [Exit.inBlock, Exit.then])
      refine bodyPost_ret (v := .tuple #[plcV .no, .int .i64 14]) ?_ rfl ?_
      ·rw [results_cell_tmp rfl]; unfold plcV Plc.no; go_simp
      ·refine ⟨by rw [<- hF2.out], ?_⟩
       (repeat (first | with_reducible assumption | (with_reducible exact Keeps.refl _ _) | (with_reducible refine Keeps.drew ?_) | (with_reducible refine Keeps.alloc ?_ _) | (with_reducible refine Keeps.setCell ?_ (by first | exact Or.inl rfl | exact Or.inr (Nat.le_refl _) | exact Or.inr (Nat.le_succ _) | exact Or.inr (by first | (simp; done) | (simp; omega))) _)))
end
end Go.Proofs.YtijbhmledmnifaaGreatDoor
