/-
  Layer 6: contracts of files: Chmod, Rmdir, Unlink. (Printed by genfiles.py.)
-/
import Derived.Test.YtfomkkoecelakaaDoorC04
import Derived.Test.YtfomkkoecelakaaDoorC03
import Derived.Test.YtfomkkoecelakaaDoorC01

set_option linter.unusedSimpArgs false
set_option linter.unusedVariables false

set_option maxRecDepth 100000
set_option maxHeartbeats 4000000
namespace Go.Proofs.YtfomkkoecelakaaDoor
open Go Go.RowKit

section
variable {N : Nat → Prop} {w w' : World} {F a : Nat} {d d' : Nds} {room calls fail : Int}


end
end Go.Proofs.YtfomkkoecelakaaDoor

/-
  Layer 6: contracts of files: Begin, Disk, Calls, Close, Read, Write.
-/
set_option maxRecDepth 100000
set_option maxHeartbeats 4000000
namespace Go.Proofs.YtfomkkoecelakaaDoor
open Go Go.RowKit

section
variable {N : Nat → Prop} {w w' : World} {F a : Nat} {d d' : Nds} {room calls fail : Int}

theorem begin_any (w : World) (room fail : Int) (h0 : 0 ≤ room) (h1 : room ≤ 9223372036854775807) :
    Calls Tryd.prog 6 #[.int .i64 room, .int .i64 fail] w fun e w' => ∃ F a, e = .returned (.tuple #[.pointer (some ⟨F, 0, none⟩), .int .i64 0]) ∧ FSt (fun g => g < w.heap.size) w' F a newD room 0 fail ∧ Keeps NoB w w' := by
  have HN := Lib.hid (new_any w room h1)
  simp only [if_neg (show ¬ room < 0 by omega)] at HN
  go_enter Tryd.func6, Tryd.ntmps6
  go_wp2_with (go_at_call 12; go_loud (refine HN.out.mono ?_); rintro e w1 ⟨a, rfl, hd⟩)
  go_ret2
  have hk := hd.keeps
  have hs := hk.size
  have ka : Keeps NoB w1 (w1.alloc (.cells #[.pointer (some ⟨a, 0, none⟩), .int .i64 0, .int .i64 fail] 52)) := (Keeps.refl _ _).alloc _
  have kn := Keeps.refl NoB (w1.alloc (.cells #[.pointer (some ⟨a, 0, none⟩), .int .i64 0, .int .i64 fail] 52))
  refine ⟨w1.heap.size, a, rfl, ⟨hd.pd.grow ka (fun _ _ hx => hx.elim) (fun x hx => ?_), by omega, boxed kn 0 _ rfl, boxed kn 1 _ rfl, boxed kn 2 _ rfl, boxedz kn⟩, hk.alloc _⟩
  rcases hx with hx | rfl
  · exact .inl hx
  · exact .inr ⟨Nat.le_refl _, by simp⟩

theorem disk_any (h : FSt N w F a d room calls fail) : Calls Tryd.prog 73 #[.pointer (some ⟨F, 0, none⟩)] w fun e w' => e = .returned (.pointer (some ⟨a, 0, none⟩)) ∧ w = w' := by
  have f0 := h.c0
  clear h
  go_enter Tryd.func73, Tryd.ntmps73
  go_wp2
  go_ret
  exact ⟨rfl, rfl⟩

/-- Write, the call that may fail with it. -/
def wrtF (calls fail : Int) (d : Nds) (room id x : Int) (s : ByteArray) : Nds × Int := orFail calls fail d (writeTo d room id x s, writeErr d room id x s)

end
end Go.Proofs.YtfomkkoecelakaaDoor

/-
  Layer 6: contracts of files: Mkdir.
-/
set_option maxRecDepth 100000
set_option maxHeartbeats 4000000
namespace Go.Proofs.YtfomkkoecelakaaDoor
open Go Go.RowKit

section
variable {N : Nat → Prop} {w w' : World} {F a : Nat} {d d' : Nds} {room calls fail : Int}


theorem mkdir_any (h : FSt N w F a d room calls fail) (hc0 : 0 ≤ calls) (hc1 : calls ≤ 4611686018427387904) (hb : mass d + 3 ≤ 2147483648) (at' mask : Int) (s : ByteArray) (m : Int) (hsz : s.size ≤ 4294967280) :
    Calls Tryd.prog 7 #[.pointer (some ⟨F, 0, none⟩), .agg #[.int .i64 at', .int .i64 mask], .string s, .int .i64 m] w
      (FTo N w F a (orFail calls fail d (mkdirR d room at' mask s m)).1 room (calls + 1) fail (.int .i64 (orFail calls fail d (mkdirR d room at' mask s m)).2)) := by
  have kz0 : Keeps NoB w (w.alloc (.cells #[.int .i64 at', .int .i64 mask] 30)) := (Keeps.refl _ _).alloc _
  obtain ⟨N1, hsub, hnew, FS⟩ := h.wider kz0
  have HW := Lib.hid (Bx.new (Keeps.refl NoB (w.alloc (.cells #[.int .i64 at', .int .i64 mask] 30))))
  have HNW := Lib.hid (hnew w.heap.size (Nat.le_refl _) (by simp))
  have HK := Lib.hid (kz0.of_none (F := fun g => ¬ N g))
  have HSub := Lib.hid hsub
  clear hsub hnew h kz0
  have HC := Lib.hid (call_any FS hc0 hc1)
  obtain ⟨ce, hce⟩ : ∃ ce, callE calls fail = ce := ⟨_, rfl⟩
  obtain ⟨O, hO⟩ : ∃ O, orFail calls fail d (mkdirR d room at' mask s m) = O := ⟨_, rfl⟩
  have HOF := Lib.hid (show O = if ce ≠ 0 then (d, ce) else mkdirR d room at' mask s m by rw [← hO]; unfold orFail; rw [hce])
  rw [hO]
  clear hO
  rw [hce] at HC
  clear hce FS hc0 hc1
  go_enter Tryd.func7, Tryd.ntmps7
  go_upto_region 1 with fail
  generalize w.alloc (.cells #[.int .i64 at', .int .i64 mask] 30) = w0 at *
  generalize w.heap.size = W at *
  go_upto_region 2 with (go_at_call 13; go_loud (refine HC.out.mono ?_); rintro e wc ⟨rfl, FS, k1⟩; replace HW := Lib.hid (HW.out.keep k1 (fun hh => hh HNW.out)); replace HK := Lib.hid (HK.out.trans (k1.mono (fun g _ hg hN => hg (HSub.out g hN)))))
  have HFS := Lib.hid FS
  clear HC k1 FS
  by_cases hz : ce ≠ 0
  · have hb : (ce != 0) = true := by simpa using hz
    rw [if_pos hz] at HOF
    clear hz
    go_wp2_with fail
    go_ret
    exact ⟨ret_i64 (by rw [HOF.out]), (by rw [HOF.out]; exact HFS.out.less HSub.out), HK.out⟩
  rw [if_neg hz] at HOF
  obtain rfl : ce = 0 := Classical.not_not.1 hz
  clear hz
  have b0 := HW.out.cell 0 _ rfl
  have b1 := HW.out.cell 1 _ rfl
  have f0 := HFS.out.c0
  obtain ⟨X, hX⟩ : ∃ X, freeR d at' s true = X := ⟨_, rfl⟩
  have HFr := Lib.hid (free_any HFS.out at' mask s true hsz)
  have HQ := Lib.hid (show mkdirR d room at' mask s m = if X.2 ≠ 0 then (d, X.2) else madeR d room X.1 2 (freshM m mask) ⟨#[]⟩ by unfold mkdirR; rw [hX])
  rw [hX] at HFr
  obtain ⟨⟨node, dir, name⟩, fe⟩ := X
  unfold plcV at HFr
  simp only at HFr HQ
  have HX := Lib.hid hX
  clear hX hsz
  go_upto_region 5 with (go_at_call 14; go_loud (refine HFr.out.mono ?_); rintro e w2 ⟨rfl, k2⟩)
  have KP := Lib.hid (Bx.new (Keeps.refl NoB (w2.alloc (.cells #[.int .i64 node, .int .i64 dir, .string name] 55))))
  have k3 : Keeps NoB wc (w2.alloc (.cells #[.int .i64 node, .int .i64 dir, .string name] 55)) := k2.alloc _
  obtain ⟨N2, hsub, hnew, FS⟩ := HFS.out.wider k3
  have HNP := Lib.hid (hnew w2.heap.size k2.size (by simp))
  replace HW := Lib.hid (HW.out.on k3)
  replace HK := Lib.hid (HK.out.trans k3.of_none)
  replace HSub := Lib.hid (fun g hg => hsub g (HSub.out g hg))
  replace HNW := Lib.hid (hsub _ HNW.out)
  clear b0 b1 f0 HFr k2 k3 hsub hnew HFS
  generalize w2.alloc (.cells #[.int .i64 node, .int .i64 dir, .string name] 55) = w3 at *
  generalize w2.heap.size = PB at *
  have HFS := Lib.hid FS
  clear FS
  by_cases hz : fe ≠ 0
  · have hb : (fe != 0) = true := by simpa using hz
    rw [HQ.out, if_pos hz] at HOF
    clear hz
    go_wp2_with fail
    go_ret
    exact ⟨ret_i64 (by rw [HOF.out]), (by rw [HOF.out]; exact HFS.out.less HSub.out), HK.out⟩
  rw [HQ.out, if_neg hz] at HOF
  obtain rfl : fe = 0 := Classical.not_not.1 hz
  clear hz
  have f0 := HFS.out.c0
  have b1 := HW.out.cell 1 _ rfl
  go_upto_region 7 with fail
  have HMk := Lib.hid ((HFS.out.on (Keeps.refl NoB w3).drew).prog2 fun R hR => makeD_any hR 2 (freshM m mask) ⟨#[]⟩ (by omega) (by decide))
  have hQ2 := Lib.hid (show madeR d room ⟨0, dir, name⟩ 2 (freshM m mask) ⟨#[]⟩ = madeR d room ⟨0, dir, name⟩ 2 (freshM m mask) ⟨#[]⟩ from rfl)
  go_cut [12, 11] from 11 to 39 (fun x y wx => x = .int .i64 (makeId d room 2 (freshM m mask) ⟨#[]⟩) ∧ y = .int .i64 (makeErr d room 2 (freshM m mask) ⟨#[]⟩) ∧ FSt N2 wx F a (makeTo d room 2 (freshM m mask) ⟨#[]⟩) room (calls + 1) fail ∧ Keeps (fun g => ¬ N2 g) w3 wx)
  case first =>
    generalize makeId d room 2 (freshM m mask) ⟨#[]⟩ = mi at *
    generalize makeErr d room 2 (freshM m mask) ⟨#[]⟩ = me at *
    generalize makeTo d room 2 (freshM m mask) ⟨#[]⟩ = mt at *
    have d0 := (HFS.out.on (Keeps.refl NoB w3).drew).c0
    have d1 := (HW.out.on (Keeps.refl NoB w3).drew).cell 1 _ rfl
    go_region_held3 (fun wz => wz.cell? ⟨F, 0, none⟩ = some (.pointer (some ⟨a, 0, none⟩)) ∧ wz.cell? ⟨W, 1, none⟩ = some (.int .i64 mask)) (refine ⟨?_, ?_⟩ <;> with_reducible assumption)
      (first | (go_at_call 16; refine (fresh_any _ _ _).mono ?_; rintro e wq ⟨rfl, rfl⟩) | (go_at_call 15; refine HMk.out.mono ?_; rintro e w4 ⟨rfl, FS4, k4⟩; have z0 := FS4.c0; have z1 := ((HW.out.on (Keeps.refl NoB w3).drew).keep k4 (fun hh => hh HNW.out)).cell 1 _ rfl))
    all_goals (go_wp2_with fail; go_meet; exact ⟨rfl, rfl, FS4, (Keeps.refl _ _).drew.trans k4⟩)
  case rest =>
    obtain ⟨rfl, rfl, FS, k4⟩ := hcut
    replace HK := Lib.hid (HK.out.trans (k4.mono (fun g _ hg hN => hg (HSub.out g hN))))
    have HP := Lib.hid (KP.out.keep k4 (fun hh => hh HNP.out))
    clear f0 b1 KP HW HFS HMk k4
    obtain ⟨me, hme⟩ : ∃ me, makeErr d room 2 (freshM m mask) ⟨#[]⟩ = me := ⟨_, rfl⟩
    by_cases hz : makeErr d room 2 (freshM m mask) ⟨#[]⟩ ≠ 0
    · have ht : makeTo d room 2 (freshM m mask) ⟨#[]⟩ = d := by unfold makeTo; rw [if_neg hz]
      have HQ2 := Lib.hid (show O = (d, me) by rw [HOF.out]; unfold madeR; rw [if_pos hz, hme])
      rw [ht] at FS
      have HFS := Lib.hid FS
      rw [hme] at hz
      rw [hme]
      have hb : (me != 0) = true := by simpa using hz
      clear FS hme hz
      go_wp2_with fail
      go_ret
      exact ⟨ret_i64 (by rw [HQ2.out]), (by rw [HQ2.out]; exact HFS.out.less HSub.out), HK.out⟩
    have h0 : makeErr d room 2 (freshM m mask) ⟨#[]⟩ = 0 := Classical.not_not.1 hz
    obtain ⟨e1, e2⟩ := makeTo_ok h0
    obtain ⟨x1, x2, _⟩ := freeR_ok HX.out
    have HQ2 := Lib.hid (show O = entrR (d ++ [newNd 2 (freshM m mask) ⟨#[]⟩]) room ⟨node, dir, name⟩ d.length by rw [HOF.out]; unfold madeR; rw [if_neg hz])
    rw [e1] at FS
    rw [e2, h0]
    have HEn := Lib.hid (enter_anyF FS ⟨node, dir, name⟩ d.length (by rw [mass_made]; omega) (Nat.le_trans x2 (by decide)) (fun _ _ => made_above x1))
    rw [← HQ2.out] at HEn
    unfold plcV at HEn
    simp only at HEn
    have p0 := HP.out.cell 0 _ rfl
    have p1 := HP.out.cell 1 _ rfl
    have p2 := HP.out.cell 2 _ rfl
    generalize (d.length : Int) = id at *
    clear FS hz h0 e1 e2 x1 x2 hme HQ HX HQ2 HP
    go_wp2_with (go_at_call 17; go_loud (refine HEn.out.mono ?_); rintro e w5 ⟨rfl, FS5, k5⟩)
    go_ret
    exact ⟨rfl, FS5.less HSub.out, HK.out.trans (k5.mono (fun g _ hg hN => hg (HSub.out g hN)))⟩

end
end Go.Proofs.YtfomkkoecelakaaDoor
