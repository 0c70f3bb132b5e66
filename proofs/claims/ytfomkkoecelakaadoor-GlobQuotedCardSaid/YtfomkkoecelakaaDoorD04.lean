/-
  Layer 6: contracts of files: List.
-/
import Derived.Test.YtfomkkoecelakaaDoorC07
import Derived.Test.YtfomkkoecelakaaDoorD02

set_option linter.unusedSimpArgs false
set_option linter.unusedVariables false

set_option maxRecDepth 100000
set_option maxHeartbeats 4000000
namespace Go.Proofs.YtfomkkoecelakaaDoor
open Go Go.RowKit

section
variable {N : Nat → Prop} {w w' : World} {F a : Nat} {d d' : Nds} {room calls fail : Int}

/-- The error of List at a place. -/
def lstE (d : Nds) (X : Plc × Int) : Int :=
  if statE d X ≠ 0 then statE d X else if (nd d X.1.node).kind ≠ 2 then 14 else if (bits BinOp.and IntKind.i64 (nd d X.1.node).mode 256 == 0) = true then 19 else 0

theorem FSt.list (h : FSt N w F a d room calls fail) (i : Int) (hn : (nd d i).ents.length < 4294967295) :
    Calls Tryd.prog 18 #[.pointer (some ⟨a, 0, none⟩), .int .i64 i] w fun e w' => ∃ v, e = .returned (.tuple #[v, .int .i64 (folderErr d i)]) ∧ Own encEnt 41 (fun g => w.heap.size ≤ g) w' v (if folderErr d i = 0 then (nd d i).ents else []) ∧ Keeps NoB w w' :=
  h.pd.tells fun _ _ _ hR _ _ => listD_any hR i hn

theorem statV_ok {d : Nds} {X : Plc × Int} (h : statE d X = 0) : statV d X = infoAt d X.1.node ∧ has d X.1.node := by
  unfold statE at h
  unfold statV
  by_cases h0 : X.2 ≠ 0
  · rw [if_pos h0] at h; exact absurd h h0
  · rw [if_neg h0] at h ⊢
    by_cases h1 : has d X.1.node
    · exact ⟨rfl, h1⟩
    · rw [if_neg h1] at h; cases h

theorem statV_shape (h : FSt N w F a d room calls fail) (X : Plc × Int) : ∃ k m l hh z : Int, statV d X = .agg #[.int .i64 k, .int .i64 m, .int .i64 l, .int .i64 hh, .int .i64 z] ∧ (statE d X = 0 → k = (nd d X.1.node).kind ∧ m = (nd d X.1.node).mode) := by
  by_cases h0 : X.2 ≠ 0
  · refine ⟨0, 0, 0, 0, 0, by unfold statV noInfo; rw [if_pos h0], fun h1 => ?_⟩
    unfold statE at h1
    rw [if_pos h0] at h1
    exact absurd h1 h0
  · obtain ⟨k, m, l, hh, z, h1, h2, _, h4⟩ := h.tell X.1.node
    refine ⟨k, m, l, hh, z, by unfold statV; rw [if_neg h0]; exact h4, fun he => ⟨h1, h2 (statV_ok he).2⟩⟩

theorem fsList_any (h : FSt N w F a d room calls fail) (at' mask : Int) (s : ByteArray) (hsz : s.size ≤ 4294967280) (hn : ∀ i, (nd d i).ents.length < 4294967295) :
    Calls Tryd.prog 9 #[.pointer (some ⟨F, 0, none⟩), .agg #[.int .i64 at', .int .i64 mask], .string s] w fun e w' =>
      ∃ v, e = .returned (.tuple #[v, .int .i64 (lstE d (thrR d at' s true))]) ∧ Own encEnt 41 (fun g => w.heap.size ≤ g) w' v (if lstE d (thrR d at' s true) = 0 then (nd d (thrR d at' s true).1.node).ents else []) ∧ Keeps NoB w w' := by
  have HS := Lib.hid (fun wx (k : Keeps NoB w wx) => stat_any (h.on k) at' mask s true hsz)
  obtain ⟨X, hX⟩ : ∃ X, thrR d at' s true = X := ⟨_, rfl⟩
  rw [hX] at HS ⊢
  clear hX
  obtain ⟨ik, im, il, ih, iz, hsv, hkm⟩ := statV_shape h X
  rw [hsv] at HS
  obtain ⟨se, hse⟩ : ∃ se, statE d X = se := ⟨_, rfl⟩
  rw [hse] at HS hkm
  obtain ⟨le, hle⟩ : ∃ le, lstE d X = le := ⟨_, rfl⟩
  rw [hle]
  unfold lstE at hle
  rw [hse] at hle
  obtain ⟨pn, hpn⟩ : ∃ pn, X.1.node = pn := ⟨_, rfl⟩
  rw [hpn] at HS hkm hle ⊢
  have HF := Lib.hid h
  have HL := Lib.hid (fun wx (k : Keeps NoB w wx) => (h.on k).list pn (hn pn))
  have f0 := h.c0
  have HK0 := Lib.hid ((Keeps.refl NoB w).alloc (.cells #[.int .i64 at', .int .i64 mask] 30))
  clear h hsv hn
  by_cases h1 : se ≠ 0
  · rw [if_pos h1] at hle
    subst hle
    rw [if_neg h1]
    have hb : (se != 0) = true := by simpa using h1
    clear h1 hkm hse
    go_enter Tryd.func9, Tryd.ntmps9
    go_wp2_with (go_at_call 11; go_loud (refine (HS.out _ HK0.out).mono ?_); rintro e w4 ⟨rfl, hk4⟩)
    go_ret2
    exact ⟨_, rfl, Own.nil _ _ _ _, (HK0.out.trans hk4).alloc _⟩
  have h1' : se = 0 := Classical.not_not.1 h1
  rw [if_neg h1] at hle
  subst h1'
  obtain ⟨rfl, rfl⟩ := hkm rfl
  have hb : ((0 : Int) != 0) = false := rfl
  clear hkm hse h1
  by_cases h2 : (nd d pn).kind ≠ 2
  · rw [if_pos h2] at hle
    subst hle
    rw [if_neg (by decide)]
    have hb2 : ((nd d pn).kind != 2) = true := by simpa using h2
    generalize (nd d pn).kind = kd at *
    generalize (nd d pn).mode = md at *
    clear h2 HL
    go_enter Tryd.func9, Tryd.ntmps9
    go_wp2_with (go_at_call 11; go_loud (refine (HS.out _ HK0.out).mono ?_); rintro e w4 ⟨rfl, hk4⟩)
    go_ret2
    exact ⟨_, rfl, Own.nil _ _ _ _, (HK0.out.trans hk4).alloc _⟩
  rw [if_neg h2] at hle
  have h2' : (nd d pn).kind = 2 := Classical.not_not.1 h2
  have hfe : folderErr d pn = 0 := by unfold folderErr; rw [if_neg (by omega), if_pos h2']
  have hb2 : ((nd d pn).kind != 2) = false := by rw [h2']; rfl
  cases hb3 : (bits BinOp.and IntKind.i64 (nd d pn).mode 256 == 0) with
  | true =>
    rw [hb3, if_pos rfl] at hle
    subst hle
    rw [if_neg (by decide)]
    generalize (nd d pn).kind = kd at *
    generalize (nd d pn).mode = md at *
    clear h2 h2' HL hfe
    go_enter Tryd.func9, Tryd.ntmps9
    go_wp2_with (go_at_call 11; go_loud (refine (HS.out _ HK0.out).mono ?_); rintro e w4 ⟨rfl, hk4⟩)
    go_ret2
    exact ⟨_, rfl, Own.nil _ _ _ _, (HK0.out.trans hk4).alloc _⟩
  | false =>
    rw [hb3, if_neg (by decide)] at hle
    subst hle
    rw [if_pos rfl]
    rw [hfe, if_pos rfl] at HL
    generalize (nd d pn).kind = kd at *
    generalize (nd d pn).mode = md at *
    generalize (nd d pn).ents = es at *
    clear h2 h2' hfe
    go_enter Tryd.func9, Tryd.ntmps9
    go_upto_region 8 with (go_at_call 11; go_loud (refine (HS.out _ HK0.out).mono ?_); rintro e w4 ⟨rfl, hk4⟩)
    have HK5 := Lib.hid ((HK0.out.trans hk4).alloc (.cells #[.int .i64 kd, .int .i64 md, .int .i64 il, .int .i64 ih, .int .i64 iz] 44))
    have f5 := (HF.out.on HK5.out).c0
    clear hk4
    go_wp2_with (go_at_call 18; go_loud (refine (HL.out _ HK5.out).mono ?_); rintro e w6 ⟨v, rfl, ho, hk6⟩)
    go_ret2
    exact ⟨_, rfl, ho.mono (fun g hg h => Nat.le_trans HK5.out.size h), HK5.out.trans hk6⟩
end

end Go.Proofs.YtfomkkoecelakaaDoor

/-
  Layer 21: contracts of package glob: user, there.
-/
set_option maxRecDepth 100000
set_option maxHeartbeats 4000000
namespace Go.Proofs.YtfomkkoecelakaaDoor
open Go Go.RowKit


theorem user21_any (w : World) : Calls Tryd.prog 8 #[] w fun e w' => e = .returned (.agg #[.int .i64 1, .int .i64 0]) ∧ Keeps NoB w w' := by
  go_enter Tryd.func8, Tryd.ntmps8
  go_wp2
  refine bodyPost_ret (v := .agg #[.int .i64 1, .int .i64 0]) ?_ rfl ⟨rfl, (Keeps.refl _ _).alloc _⟩
  rw [pres_cell_one rfl]
  go_simp

section
variable {N : Nat → Prop} {w w' : World} {F a : Nat} {d d' : Nds} {room calls fail : Int}

/-- A globber at G: files, who looks, what has been found. -/
structure GlS (S : Nat → Prop) (w : World) (G F : Nat) (at' mask : Int) (out : List ByteArray) : Prop where
  ex : ∃ v, Bk w G [.pointer (some ⟨F, 0, none⟩), .int .i64 at', .int .i64 mask, v] ∧ Own encStr 9 S w v out
  nS : ¬ S G

theorem there21_any (h : FSt N w F a d room calls fail) {G : Nat} {at' mask : Int} {v : Value} (hG : Bk w G [.pointer (some ⟨F, 0, none⟩), .int .i64 at', .int .i64 mask, v]) (s : ByteArray) (hsz : s.size ≤ 4294967280) :
    Calls Tryd.prog 55 #[.pointer (some ⟨G, 0, none⟩), .string s] w fun e w' => e = .returned (.bool (decide ((thrR d at' s false).2 = 0))) ∧ Keeps NoB w w' := by
  have HD := Lib.hid (fun wx (k : Keeps NoB w wx) => disk_any (h.on k))
  have HT := Lib.hid (fun wx (k : Keeps NoB w wx) => (h.on k).thr at' s false hsz)
  have HG := Lib.hid hG
  obtain ⟨X, hX⟩ : ∃ X, thrR d at' s false = X := ⟨_, rfl⟩
  rw [hX] at HT ⊢
  obtain ⟨⟨pn, pd, pm⟩, pe⟩ := X
  unfold plcV at HT
  simp only at HT ⊢
  have g0 := hG.cell 0 _ rfl
  have g1 := hG.cell 1 _ rfl
  clear hG hX h
  have hpe : (pe == 0) = decide (pe = 0) := rfl
  go_enter Tryd.func55, Tryd.ntmps55
  go_upto_region 1 with fail
  go_cut [6] from 5 to 21 (fun x wx => x = .int .i64 pe ∧ Keeps NoB w wx)
  case first =>
    have kr := Keeps.refl NoB w
    have krd := kr.drew
    have d0 := (HG.out.on krd).cell 0 _ rfl
    have d1 := (HG.out.on krd).cell 1 _ rfl
    go_region_held3 (fun wz => wz.cell? ⟨G, 0, none⟩ = some (.pointer (some ⟨F, 0, none⟩)) ∧ wz.cell? ⟨G, 1, none⟩ = some (.int .i64 at') ∧ Keeps NoB w wz) (refine ⟨?_, ?_, ?_⟩ <;> first | with_reducible assumption | (with_reducible refine (HG.out.on ?_).cell 0 _ rfl; (repeat (first | with_reducible assumption | (with_reducible exact Keeps.refl _ _) | (with_reducible refine Keeps.drew ?_) | (with_reducible refine Keeps.drewN ?_ _) | (with_reducible refine Keeps.alloc ?_ _) | (with_reducible refine Keeps.setCell ?_ (by first | exact Or.inl rfl | exact Or.inr (Nat.le_refl _) | exact Or.inr (by first | (simp; done) | (simp; omega))) _))); done) | (with_reducible refine (HG.out.on ?_).cell 1 _ rfl; (repeat (first | with_reducible assumption | (with_reducible exact Keeps.refl _ _) | (with_reducible refine Keeps.drew ?_) | (with_reducible refine Keeps.drewN ?_ _) | (with_reducible refine Keeps.alloc ?_ _) | (with_reducible refine Keeps.setCell ?_ (by first | exact Or.inl rfl | exact Or.inr (Nat.le_refl _) | exact Or.inr (by first | (simp; done) | (simp; omega))) _))); done) | ((repeat (first | with_reducible assumption | (with_reducible exact Keeps.refl _ _) | (with_reducible refine Keeps.drew ?_) | (with_reducible refine Keeps.drewN ?_ _) | (with_reducible refine Keeps.alloc ?_ _) | (with_reducible refine Keeps.setCell ?_ (by first | exact Or.inl rfl | exact Or.inr (Nat.le_refl _) | exact Or.inr (by first | (simp; done) | (simp; omega))) _))); done))
      (first
        | (go_at_call 73; refine (HD.out _ (by (repeat (first | with_reducible assumption | (with_reducible exact Keeps.refl _ _) | (with_reducible refine Keeps.drew ?_) | (with_reducible refine Keeps.drewN ?_ _) | (with_reducible refine Keeps.alloc ?_ _) | (with_reducible refine Keeps.setCell ?_ (by first | exact Or.inl rfl | exact Or.inr (Nat.le_refl _) | exact Or.inr (by first | (simp; done) | (simp; omega))) _))))).mono ?_; rintro e w1 ⟨rfl, rfl⟩)
        | (go_at_call 21; refine (HT.out _ (by (repeat (first | with_reducible assumption | (with_reducible exact Keeps.refl _ _) | (with_reducible refine Keeps.drew ?_) | (with_reducible refine Keeps.drewN ?_ _) | (with_reducible refine Keeps.alloc ?_ _) | (with_reducible refine Keeps.setCell ?_ (by first | exact Or.inl rfl | exact Or.inr (Nat.le_refl _) | exact Or.inr (by first | (simp; done) | (simp; omega))) _))))).mono ?_; rintro e w2 ⟨rfl, hk2⟩; have zky : Keeps NoB w w2 := Keeps.trans (by (repeat (first | with_reducible assumption | (with_reducible exact Keeps.refl _ _) | (with_reducible refine Keeps.drew ?_) | (with_reducible refine Keeps.drewN ?_ _) | (with_reducible refine Keeps.alloc ?_ _) | (with_reducible refine Keeps.setCell ?_ (by first | exact Or.inl rfl | exact Or.inr (Nat.le_refl _) | exact Or.inr (by first | (simp; done) | (simp; omega))) _)))) hk2; have zs := zky.size; have z0 := (HG.out.on zky).cell 0 _ rfl; have z1 := (HG.out.on zky).cell 1 _ rfl; (try (have yb := Bx.newD hk2; have y0 := yb.cell 0 _ rfl; have y1 := yb.cell 1 _ rfl; have y2 := yb.cell 2 _ rfl; have yf := yb.fz))))
    all_goals (go_wp2_with fail; go_meet; refine ⟨rfl, ?_⟩)
    all_goals first
      | ((repeat (first | with_reducible assumption | (with_reducible exact Keeps.refl _ _) | (with_reducible refine Keeps.drew ?_) | (with_reducible refine Keeps.drewN ?_ _) | (with_reducible refine Keeps.alloc ?_ _) | (with_reducible refine Keeps.setCell ?_ (by first | exact Or.inl rfl | exact Or.inr (Nat.le_refl _) | exact Or.inr (by first | (simp; done) | (simp; omega))) _))); done)
      | skip
  case rest =>
  obtain ⟨rfl, hkc⟩ := hcut
  go_wp2_with fail
  go_ret
  exact ⟨rfl, hkc⟩
end

end Go.Proofs.YtfomkkoecelakaaDoor
