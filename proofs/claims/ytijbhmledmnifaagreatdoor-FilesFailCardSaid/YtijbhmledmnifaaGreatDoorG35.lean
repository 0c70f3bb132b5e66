/-
 Layer 6's statements: a step of both: Rename. Printed by wip/genlaw6.py.
-/
import Derived.Test.YtijbhmledmnifaaGreatDoorG21
import Derived.Test.YtijbhmledmnifaaGreatDoorG30
import Derived.Test.YtijbhmledmnifaaGreatDoorG34
import Derived.Deep.RegionHeld3
import Derived.StillTailTactics

set_option linter.unusedSimpArgs false
set_option linter.unusedVariables false
set_option maxRecDepth 100000
set_option maxHeartbeats 8000000
namespace Go.Proofs.YtijbhmledmnifaaGreatDoor
open Go Go.RowKit
section
variable {B : Nat -> Prop} {w : World} {B0 F a : Nat} {d : Nds} {room calls fail at' mask : Int} {p : Option Addr} {c k : Nat}
theorem l6step6_any (h : Sd B w B0 F a p c d room calls fail at' mask k) (hk : k <= 40) (s t : ByteArray) (m n kk : Int) (ho : okO ⟨6, s, t, m, n, kk⟩ = true) :
  Calls Tryz.prog 19 #[.pointer (some ⟨B0, 0, none⟩), .agg #[.int .i64 6, .string s, .string t, .int .i64 m, .int .i64 n, .int .i64 kk]] w (StTo B w B0 F a (opF calls fail room at' mask d ⟨6, s, t, m, n, kk⟩).1 room (calls + 1) fail at' mask (k + 1)) := by
 have HH := Lib.hid h
 obtain ⟨hs, ht, hm0, hm1, _, _, _⟩ := okO_parts ho
 have hs2 : s.size <= 4294967280 := by simp only at hs; omega
 have ht2 : t.size <= 4294967280 := by simp only at ht; omega
 have hms := h.ms
 have hc1 : calls <= 4611686018427387904 := by have := h.c1; omega
 have hcap := h.sd.cap
 have hmax := h.sd.max
 unfold maxLen at hmax
 have e1 : opF calls fail room at' mask d ⟨6, s, t, m, n, kk⟩ = orFail calls fail d (renR d room at' t s) := by unfold opF opR; rw [if_neg (show ¬ (6 : Int) = 1 by decide), if_neg (show ¬ (6 : Int) = 2 by decide), if_neg (show ¬ (6 : Int) = 3 by decide), if_neg (show ¬ (6 : Int) = 4 by decide), if_neg (show ¬ (6 : Int) = 5 by decide), if_pos rfl]
 have HA := Lib.hid (opF_all h.sd.inv h.nh calls fail room at' mask ⟨6, s, t, m, n, kk⟩)
 rw [e1] at HA ⊢
 obtain ⟨X, hX⟩ : ∃ X, orFail calls fail d (renR d room at' t s) = X := ⟨_, rfl⟩
 rw [hX] at HA ⊢
 have HXe := Lib.hid hX
 clear hX
 have HI := Lib.hid h.sd.inv
 have HC := Lib.hid h.sd.clean
 have k0 : Keeps NoB w ((w.alloc (.cells #[.int .i64 6, .string s, .string t, .int .i64 m, .int .i64 n, .int .i64 kk] 55)).alloc (.cells #[.int .i64 at', .int .i64 mask] 46)) := ((Keeps.refl NoB w).alloc _).alloc _
 have s1 : (w.alloc (.cells #[.int .i64 6, .string s, .string t, .int .i64 m, .int .i64 n, .int .i64 kk] 55)).heap.size = w.heap.size + 1 := by simp
 have HO := Lib.hid (Bk.new ((Keeps.refl NoB (w.alloc (.cells #[.int .i64 6, .string s, .string t, .int .i64 m, .int .i64 n, .int .i64 kk] 55))).alloc (.cells #[.int .i64 at', .int .i64 mask] 46)))
 have hw0 := Bk.new (Keeps.refl NoB ((w.alloc (.cells #[.int .i64 6, .string s, .string t, .int .i64 m, .int .i64 n, .int .i64 kk] 55)).alloc (.cells #[.int .i64 at', .int .i64 mask] 46)))
 rw [s1] at hw0
 have HW := Lib.hid hw0
 have HB := Lib.hid (h.bx.on k0)
 have HK := Lib.hid k0
 have HS := Lib.hid (h.sd.more k0 (fun _ _ hx => hx.elim) (B' := fun g => B g ∨ (w.heap.size <= g ∧ g < w.heap.size + 2)) (fun g hg => hg.elim .inl (fun hg => .inr ⟨hg.1, by simp; omega⟩)))
 have x0 := h.bx.cell 7 _ rfl
 have x1 := h.bx.cell 8 _ rfl
 have bl := h.bx.lt
 clear k0 s1 hw0 e1 h ho hs ht
 go_enter Tryz.func19, Tryz.ntmps19
 go_upto_region 20 with fail
 clear x0 x1 bl
 generalize (w.alloc (.cells #[.int .i64 6, .string s, .string t, .int .i64 m, .int .i64 n, .int .i64 kk] 55)).alloc (.cells #[.int .i64 at', .int .i64 mask] 46) = w2 at *
 have x0 := HB.out.cell 0 _ rfl
 have x1 := HB.out.cell 1 _ rfl
 have x2 := HB.out.cell 2 _ rfl
 have y0 := HO.out.cell 2 _ rfl; have y1 := HO.out.cell 1 _ rfl
 go_still_tail 12, (by kernel_rfl)
 change wpList _ _ _ _ _ w2.drew
 have HP := Lib.hid ((HS.out.on (Keeps.refl NoB w2).drew).prog fun N hN => rename_any hN (HH.out.c0) hc1 at' mask t s ht2 hs2)
 rw [HXe.out] at HP
 clear x0 x1 x2 y0 y1
 go_upto_region 21 with (go_at_call 64; go_loud (refine HP.out.mono ?_); rintro e w4 ⟨rfl, SD4, k4⟩)
 have HB4 := Lib.hid ((HB.out.on (Keeps.refl NoB w2).drew).keep k4 (fun hn => hn (.inl HH.out.nb)))
 have HO4 := Lib.hid ((HO.out.on (Keeps.refl NoB w2).drew).keep k4 (fun hn => hn (.inr ⟨Nat.le_refl _, by omega⟩)))
 have HW4 := Lib.hid ((HW.out.on (Keeps.refl NoB w2).drew).keep k4 (fun hn => hn (.inr ⟨by omega, by omega⟩)))
 have HK4 := Lib.hid k4
 have HS4 := Lib.hid SD4
 have HR := Lib.hid (fun (wx : World) (kx : Keeps NoB w4 wx) => (HS4.out.on kx).rcall (f := 65) (X := X) (cr := calls) (cr' := calls + 1) HI.out HC.out HH.out.nh (by omega) HH.out.c0 hc1 (fun S HR => by rw [<- HXe.out]; exact r6rename_any HR at' mask t s ht2 hs2))
 unfold QFo fV at HR
 clear SD4 k4 HP HB HO HW HS HXe hs2 ht2 hm0 hm1 hms hc1
 have HBd := Lib.hid (HB4.out.on (Keeps.refl NoB w4).drew)
 have HOd := Lib.hid (HO4.out.on (Keeps.refl NoB w4).drew)
 have HWd := Lib.hid (HW4.out.on (Keeps.refl NoB w4).drew)
 have d3 := HBd.out.cell 3 _ rfl
 have d4 := HBd.out.cell 4 _ rfl
 have d5 := HBd.out.cell 5 _ rfl
 have d6 := HBd.out.cell 6 _ rfl
 have d7 := HWd.out.cell 0 _ rfl
 have d8 := HWd.out.cell 1 _ rfl
 have g0 := HOd.out.cell 2 _ rfl; have g1 := HOd.out.cell 1 _ rfl
 go_region_with (first | (go_at_call 65; refine (HR.out _ (by (repeat (first | with_reducible assumption | (with_reducible exact Keeps.refl _ _) | (with_reducible refine Keeps.drew ?_) | (with_reducible refine Keeps.drewN ?_ _))))).mono ?_; rintro e w5 ⟨p5, c5, rfl, SD5, k5⟩; have zk : Keeps NoB w4 w5 := Keeps.trans (by (repeat (first | with_reducible assumption | (with_reducible exact Keeps.refl _ _) | (with_reducible refine Keeps.drew ?_) | (with_reducible refine Keeps.drewN ?_ _)))) k5; have HB5 := Lib.hid (HB4.out.on zk); have HS5 := Lib.hid SD5; clear SD5 k5 d3 d4 d5 d6 d7 d8 g0 g1; have z3 := HB5.out.cell 3 _ rfl; have z4 := HB5.out.cell 4 _ rfl; have z5 := HB5.out.cell 5 _ rfl; have z6 := HB5.out.cell 6 _ rfl; have zl := HB5.out.lt; have zf := HB5.out.fz))
 all_goals
  go_wp2_with fail
  go_ret
  obtain ⟨hz1, hz2⟩ := HH.out.ends (k' := k + 1) (HK.out.trans (Keeps.refl NoB w2).drew) HK4.out zk HS5.out HA.out.2.1 HA.out.2.2 (by have := HA.out.1; have := HH.out.ms; omega) (by have := HH.out.c0; omega) (by have := HH.out.c1; omega)
  exact ⟨p5, c5, rfl, hz1, hz2⟩
end
end Go.Proofs.YtijbhmledmnifaaGreatDoor
