/-
  Layer 6: files in a law: what was there before is not theirs.
-/
import Derived.Test.YtfomkkoecelakaaDoorC06
import Derived.Test.YtfomkkoecelakaaDoorC05
import Derived.Deep.RegionHeld3
import Derived.BigRegion

set_option linter.unusedSimpArgs false
set_option linter.unusedVariables false

set_option maxRecDepth 100000
namespace Go.Proofs.YtfomkkoecelakaaDoor
open Go Go.RowKit

/-- Files lie in memory; what was there at W, and the blocks of P, are not theirs; nothing has turned of what was there. -/
structure FSx (W : World) (P : Nat → Prop) (w : World) (F a : Nat) (d : Nds) (room calls fail : Int) : Prop where
  ex : ∃ N : Nat → Prop, (∀ g, g < W.heap.size → N g) ∧ (∀ g, P g → N g) ∧ FSt N w F a d room calls fail
  keeps : Keeps NoB W w

section
variable {W w w' : World} {P P' : Nat → Prop} {F a : Nat} {d d' : Nds} {room calls calls' fail : Int}

theorem FSx.inv (h : FSx W P w F a d room calls fail) : DInv d := by obtain ⟨N, _, _, h⟩ := h.ex; exact h.pd.inv
theorem FSx.clean (h : FSx W P w F a d room calls fail) : NoGarb d := by obtain ⟨N, _, _, h⟩ := h.ex; exact h.pd.clean
theorem FSx.small (h : FSx W P w F a d room calls fail) : smallD d := by obtain ⟨N, _, _, h⟩ := h.ex; exact h.pd.small
theorem FSx.lt (h : FSx W P w F a d room calls fail) : F < w.heap.size := by obtain ⟨N, _, _, h⟩ := h.ex; exact h.lt
theorem FSx.low (h : FSx W P w F a d room calls fail) (g : Nat) (hg : P g) : g < w.heap.size := by obtain ⟨N, _, h1, h⟩ := h.ex; exact h.low g (h1 g hg)

theorem FSx.new {W : World} (h : FSt (fun g => g < W.heap.size) w F a d room calls fail) (k : Keeps NoB W w) : FSx W NoB w F a d room calls fail :=
  ⟨⟨_, fun _ hg => hg, fun _ hg => hg.elim, h⟩, k⟩

/-- New blocks come, which may be guarded, too. -/
theorem FSx.more (h : FSx W P w F a d room calls fail) (k : Keeps NoB w w') (hP : ∀ g, P' g → P g ∨ (w.heap.size ≤ g ∧ g < w'.heap.size)) : FSx W P' w' F a d room calls fail := by
  obtain ⟨N, h1, h2, h3⟩ := h.ex
  obtain ⟨N1, g1, g2, g3⟩ := h3.wider k
  exact ⟨⟨N1, fun g hg => g1 g (h1 g hg), fun g hg => (hP g hg).elim (fun h => g1 g (h2 g h)) (fun h => g2 g h.1 h.2), g3⟩, h.keeps.trans k⟩
theorem FSx.on (h : FSx W P w F a d room calls fail) (k : Keeps NoB w w') : FSx W P w' F a d room calls fail := h.more k (fun _ hg => .inl hg)

/-- Guarded blocks turn, and new ones come. -/
theorem FSx.more2 {G : Nat → Prop} (h : FSx W P w F a d room calls fail) (k : Keeps G w w') (hG : ∀ g, G g → P g ∧ W.heap.size ≤ g) (hP : ∀ g, P' g → P g ∨ (w.heap.size ≤ g ∧ g < w'.heap.size)) : FSx W P' w' F a d room calls fail := by
  obtain ⟨N, h1, h2, h3⟩ := h.ex
  have hGN : ∀ g, G g → N g := fun g hg => h2 g (hG g hg).1
  have h4 := h3.keep k hGN
  have hl := h3.lt
  refine ⟨⟨fun g => N g ∨ (w.heap.size ≤ g ∧ g < w'.heap.size), fun g hg => .inl (h1 g hg), fun g hg => (hP g hg).elim (fun h => .inl (h2 g h)) .inr, h3.pd.grow k (fun x _ hx => .inl (hGN x hx)) (fun x hx => ?_), fun hx => hx.elim h3.notN (fun e => by omega), h4.c0, h4.c1, h4.c2, h4.fz⟩, h.keeps.step k (fun g hg => .inr (hG g hg).2)⟩
  rcases hx with (hx | hx) | rfl
  · exact .inl (.inl hx)
  · exact .inr hx
  · exact .inl (.inr rfl)

/-- Guarded blocks turn. -/
theorem FSx.turn {G : Nat → Prop} (h : FSx W P w F a d room calls fail) (k : Keeps G w w') (hG : ∀ g, G g → P g ∧ W.heap.size ≤ g) : FSx W P w' F a d room calls fail := by
  obtain ⟨N, h1, h2, h3⟩ := h.ex
  exact ⟨⟨N, h1, h2, h3.keep k (fun g hg => h2 g (hG g hg).1)⟩, h.keeps.step k (fun g hg => .inr (hG g hg).2)⟩

/-- A call of files, in a law. -/
def FXo (W : World) (P : Nat → Prop) (w : World) (F a : Nat) (d' : Nds) (room calls' fail : Int) (V : Value) : Ending → World → Prop := fun e w' =>
  e = .returned V ∧ FSx W P w' F a d' room calls' fail ∧ Keeps (fun g => ¬ (g < W.heap.size ∨ P g)) w w'

theorem FSx.call {f : Nat} {args : Array Value} {V : Value} (h : FSx W P w F a d room calls fail) (hc : ∀ N : Nat → Prop, FSt N w F a d room calls fail → Calls Tryd.prog f args w (FTo N w F a d' room calls' fail V)) :
    Calls Tryd.prog f args w (FXo W P w F a d' room calls' fail V) := by
  obtain ⟨N, h1, h2, h3⟩ := h.ex
  refine (hc N h3).mono ?_
  rintro e w' ⟨rfl, h4, h5⟩
  have k : Keeps (fun g => ¬ (g < W.heap.size ∨ P g)) w w' := h5.mono (fun g _ hg hn => hg (hn.elim (h1 g) (h2 g)))
  exact ⟨rfl, ⟨⟨N, h1, h2, h4⟩, h.keeps.step k (fun g hg => .inr (by
    rcases Nat.lt_or_ge g W.heap.size with h | h
    · exact absurd (.inl h) hg
    · exact h))⟩, k⟩

theorem FSx.asks {f : Nat} {args : Array Value} {Q : Ending → World → Prop} (h : FSx W P w F a d room calls fail) (hc : ∀ N : Nat → Prop, FSt N w F a d room calls fail → Calls Tryd.prog f args w Q) : Calls Tryd.prog f args w Q := by
  obtain ⟨N, _, _, h3⟩ := h.ex
  exact hc N h3

theorem FSx.kept (h : FSx W P w F a d room calls fail) {B : Nat} {l : List Value} (hb : Bx w B l) (k : Keeps (fun g => ¬ (g < W.heap.size ∨ P g)) w w') (hB : P B) : Bx w' B l := hb.keep k (fun hn => hn (.inr hB))

end
end Go.Proofs.YtfomkkoecelakaaDoor

/-
  Layer 6: contracts of files: Stat. (Printed by genfiles.py.)
-/
set_option maxRecDepth 100000
set_option maxHeartbeats 4000000
namespace Go.Proofs.YtfomkkoecelakaaDoor
open Go Go.RowKit

section
variable {N : Nat → Prop} {w w' : World} {F a : Nat} {d d' : Nds} {room calls fail : Int}

theorem results_tmp_cell_tmp {fn : Func} {p u t : Tmp} {ty : TypeId} (h : fn.results = #[.tmp u, .cell p ty, .tmp t]) (tmps : Array Value) (P : Program) (w : World) :
    (results fn tmps).run P w =
      ((asAddr (tmps.getD p undef)).run P w).andThen fun a w₁ => ((loadVar ty a).run P w₁).andThen fun v w₂ => .ok (.tuple #[tmps.getD u undef, v, tmps.getD t undef]) w₂ := by
  simp only [results, h]
  simp [Sem.run_bind, Result.andThen]

/-- What Stat tells of a node. -/
def statV (d : Nds) (X : Plc × Int) : Value := if X.2 ≠ 0 then noInfo else infoAt d X.1.node
def statE (d : Nds) (X : Plc × Int) : Int := if X.2 ≠ 0 then X.2 else if has d X.1.node then 0 else 12

theorem stat_any (h : FSt N w F a d room calls fail) (at' mask : Int) (s : ByteArray) (follow : Bool) (hsz : s.size ≤ 4294967280) :
    Calls Tryd.prog 11 #[.pointer (some ⟨F, 0, none⟩), .agg #[.int .i64 at', .int .i64 mask], .string s, .bool follow] w fun e w' =>
      e = .returned (.tuple #[.int .i64 (thrR d at' s follow).1.node, statV d (thrR d at' s follow), .int .i64 (statE d (thrR d at' s follow))]) ∧ Keeps NoB w w' := by
  have ks : Keeps NoB w (w.alloc (.cells #[.int .i64 at', .int .i64 mask] 30)) := (Keeps.refl _ _).alloc _
  have kz : Keeps NoB w ((w.alloc (.cells #[.int .i64 at', .int .i64 mask] 30)).alloc (.cells #[.int .i64 0, .int .i64 0, .int .i64 0, .int .i64 0, .int .i64 0] 44)) := ks.alloc _
  have HFS := Lib.hid (h.on kz)
  have HW := Lib.hid (Bx.new (w := w) ((Keeps.refl NoB (w.alloc (.cells #[.int .i64 at', .int .i64 mask] 30))).alloc (.cells #[.int .i64 0, .int .i64 0, .int .i64 0, .int .i64 0, .int .i64 0] 44)))
  have HR := Lib.hid (Bx.new (Keeps.refl NoB ((w.alloc (.cells #[.int .i64 at', .int .i64 mask] 30)).alloc (.cells #[.int .i64 0, .int .i64 0, .int .i64 0, .int .i64 0, .int .i64 0] 44))))
  rw [show (w.alloc (.cells #[.int .i64 at', .int .i64 mask] 30)).heap.size = w.heap.size + 1 by simp] at HR
  have HK := Lib.hid kz
  obtain ⟨O, hO⟩ : ∃ O, thrR d at' s follow = O := ⟨_, rfl⟩
  have HOF := Lib.hid (show O = thrR d at' s follow from hO.symm)
  rw [hO]
  have hT := fun e0 : O.2 = 0 => (thrR_ok (by rw [hO]; exact e0)).2
  have hTE := fun e0 : O.2 = 0 => (thrR_ok (by rw [hO]; exact e0)).1
  have HNo : Hid (O.2 ≠ 0 → O.1 = .no) := fun e0 => by
    rw [← hO] at e0 ⊢
    unfold thrR thereR at *
    split
    · rfl
    · next h1 =>
      rw [if_neg h1] at e0
      split
      · rfl
      · next h2 => rw [if_neg h2] at e0; exact absurd e0 h1
  clear hO h ks kz hT hTE
  go_enter Tryd.func11, Tryd.ntmps11
  go_upto_region 1 with fail
  generalize ((w.alloc (.cells #[.int .i64 at', .int .i64 mask] 30)).alloc (.cells #[.int .i64 0, .int .i64 0, .int .i64 0, .int .i64 0, .int .i64 0] 44)) = wc at *
  obtain ⟨X, hX⟩ : ∃ X, thrR d at' s follow = X := ⟨_, rfl⟩
  have HFi := Lib.hid (fun (w1 : World) (hk : Keeps NoB wc w1) => (HFS.out.on hk).thr at' s follow hsz)
  rw [hX] at HFi HOF
  obtain ⟨⟨pn, pd, pm⟩, pe⟩ := X
  unfold plcV at HFi
  simp only at HFi HOF
  have HXp := Lib.hid hX
  clear hX
  have f0 := HFS.out.c0
  have b0 := HW.out.cell 0 _ rfl
  go_upto_region 1 with fail
  go_cut [11, 12] from 11 to 25 (fun x y wx => ∃ G : Nat, wc.heap.size ≤ G ∧ x = .pointer (some ⟨G, 0, none⟩) ∧ y = .int .i64 pe ∧ Bx wx G [.int .i64 pn, .int .i64 pd, .string pm] ∧ Keeps NoB wc wx)
  case first =>
    have kr := Keeps.refl NoB wc
    have krd := kr.drew
    have d0 := (HFS.out.on krd).c0
    have d1 := (HW.out.on krd).cell 0 _ rfl
    go_region_held3 (fun wz => wz.cell? ⟨F, 0, none⟩ = some (.pointer (some ⟨a, 0, none⟩)) ∧ wz.cell? ⟨w.heap.size, 0, none⟩ = some (.int .i64 at') ∧ Keeps NoB wc wz) (refine ⟨?_, ?_, ?_⟩ <;> first | with_reducible assumption | (with_reducible refine (HFS.out.on ?_).c0; (repeat (first | with_reducible assumption | (with_reducible exact Keeps.refl _ _) | (with_reducible refine Keeps.drew ?_) | (with_reducible refine Keeps.drewN ?_ _) | (with_reducible refine Keeps.alloc ?_ _) | (with_reducible refine Keeps.setCell ?_ (by first | exact Or.inl rfl | exact Or.inr (Nat.le_refl _) | exact Or.inr (by first | (simp; done) | (simp; omega))) _))); done) | (with_reducible refine (HW.out.on ?_).cell 0 _ rfl; (repeat (first | with_reducible assumption | (with_reducible exact Keeps.refl _ _) | (with_reducible refine Keeps.drew ?_) | (with_reducible refine Keeps.drewN ?_ _) | (with_reducible refine Keeps.alloc ?_ _) | (with_reducible refine Keeps.setCell ?_ (by first | exact Or.inl rfl | exact Or.inr (Nat.le_refl _) | exact Or.inr (by first | (simp; done) | (simp; omega))) _))); done) | ((repeat (first | with_reducible assumption | (with_reducible exact Keeps.refl _ _) | (with_reducible refine Keeps.drew ?_) | (with_reducible refine Keeps.drewN ?_ _) | (with_reducible refine Keeps.alloc ?_ _) | (with_reducible refine Keeps.setCell ?_ (by first | exact Or.inl rfl | exact Or.inr (Nat.le_refl _) | exact Or.inr (by first | (simp; done) | (simp; omega))) _))); done))
      (first | (go_at_call 21; refine (HFi.out _ (by (repeat (first | with_reducible assumption | (with_reducible exact Keeps.refl _ _) | (with_reducible refine Keeps.drew ?_) | (with_reducible refine Keeps.drewN ?_ _) | (with_reducible refine Keeps.alloc ?_ _) | (with_reducible refine Keeps.setCell ?_ (by first | exact Or.inl rfl | exact Or.inr (Nat.le_refl _) | exact Or.inr (by first | (simp; done) | (simp; omega))) _))))).mono ?_; rintro e w2 ⟨rfl, hk2⟩; have zky : Keeps NoB wc w2 := Keeps.trans (by (repeat (first | with_reducible assumption | (with_reducible exact Keeps.refl _ _) | (with_reducible refine Keeps.drew ?_) | (with_reducible refine Keeps.drewN ?_ _) | (with_reducible refine Keeps.alloc ?_ _) | (with_reducible refine Keeps.setCell ?_ (by first | exact Or.inl rfl | exact Or.inr (Nat.le_refl _) | exact Or.inr (by first | (simp; done) | (simp; omega))) _)))) hk2; have zs := zky.size; have z0 := (HFS.out.on zky).c0; have z1 := (HW.out.on zky).cell 0 _ rfl; (try (have yb := Bx.newD hk2; have y0 := yb.cell 0 _ rfl; have y1 := yb.cell 1 _ rfl; have y2 := yb.cell 2 _ rfl; have yf := yb.fz))))
    all_goals (go_wp2_with fail; go_meet; refine ⟨_, ?_, rfl, rfl, ?_, ?_⟩)
    all_goals first
      | exact Nat.le_refl _
      | exact zs
      | (with_reducible exact Bx.new (Keeps.refl NoB _))
      | (exact ((yb.put 0 _).put 1 _).put 2 _)
      | ((repeat (first | with_reducible assumption | (with_reducible exact Keeps.refl _ _) | (with_reducible refine Keeps.drew ?_) | (with_reducible refine Keeps.drewN ?_ _) | (with_reducible refine Keeps.alloc ?_ _) | (with_reducible refine Keeps.setCell ?_ (by first | exact Or.inl rfl | exact Or.inr (Nat.le_refl _) | exact Or.inr (by first | (simp; done) | (simp; omega))) _))); done)
      | skip
  case rest =>
    obtain ⟨HPB, hG, rfl, rfl, HP, hk1⟩ := hcut
    replace HP := Lib.hid HP
    have hPR : ¬ HPB = w.heap.size + 1 := by have := HR.out.lt; omega
    clear f0 b0 HFi hG
    replace HFS := Lib.hid (HFS.out.on hk1)
    replace HK := Lib.hid (HK.out.trans hk1.of_none)
    replace HW := Lib.hid (HW.out.on hk1)
    replace HR := Lib.hid (HR.out.on hk1)
    have HO := HOF.out
    subst HO
    clear HOF
    have kk := HK.out
    by_cases hz : pe ≠ 0
    · have hb : (pe != 0) = true := by simpa using hz
      have hno := HNo.out hz
      have HV := Lib.hid (show statV d (⟨pn, pd, pm⟩, pe) = noInfo by unfold statV; rw [if_pos hz])
      have HV3 := Lib.hid (show statE d (⟨pn, pd, pm⟩, pe) = pe by unfold statE; rw [if_pos hz])
      have HV2 := Lib.hid (show pn = 0 by have := congrArg Plc.node hno; exact this)
      have r0 := HR.out.cell 0 _ rfl
      have r1 := HR.out.cell 1 _ rfl
      have r2 := HR.out.cell 2 _ rfl
      have r3 := HR.out.cell 3 _ rfl
      have r4 := HR.out.cell 4 _ rfl
      have rf := HR.out.fz
      have rl := HR.out.lt
      clear hz hno
      go_wp2_with fail
      (try simp only [Exit.inBlock, Exit.then])
      refine bodyPost_ret (v := .tuple #[.int .i64 0, noInfo, .int .i64 pe]) ?_ rfl ?_
      · rw [results_tmp_cell_tmp rfl]; unfold noInfo; go_simp
      · refine ⟨by rw [HV.out, HV3.out, HV2.out], ?_⟩
        (repeat (first | with_reducible assumption | (with_reducible exact Keeps.refl _ _) | (with_reducible refine Keeps.drew ?_) | (with_reducible refine Keeps.drewN ?_ _) | (with_reducible refine Keeps.alloc ?_ _) | (with_reducible refine Keeps.setCell ?_ (by first | exact Or.inl rfl | exact Or.inr (Nat.le_refl _) | exact Or.inr (by first | (simp; done) | (simp; omega))) _)))
    have hb : (pe != 0) = false := by simpa using hz
    replace HNo : Hid (pe = 0) := Classical.not_not.1 hz
    clear hz
    have HOF : Hid ((nd d pn).kind = (nd d pn).kind) := rfl
    obtain ⟨ik, im, il, ih, iz, hik, him, _, hie⟩ := HFS.out.tell pn
    obtain ⟨ie, hie2⟩ : ∃ ie, (if has d pn then 0 else 12 : Int) = ie := ⟨_, rfl⟩
    have HIn := Lib.hid (fun (w1 : World) (hk : Keeps NoB wc w1) => (HFS.out.on hk).info pn)
    rw [hie, hie2] at HIn
    rw [← hik] at HOF
    have HIk := Lib.hid hik
    have HIm := Lib.hid him
    have HIE := Lib.hid hie
    have HIE2 := Lib.hid hie2
    clear hie hie2 hik him
    have f0 := HFS.out.c0
    have b0 := HP.out.cell 0 _ rfl
    go_upto_region 4 with fail
    go_cut [13, 12] from 12 to 39 (fun x y wx => ∃ G : Nat, wc.heap.size ≤ G ∧ x = .pointer (some ⟨G, 0, none⟩) ∧ y = .int .i64 ie ∧ Bx wx G [.int .i64 ik, .int .i64 im, .int .i64 il, .int .i64 ih, .int .i64 iz] ∧ Keeps NoB wc wx)
    case first =>
      have kr := Keeps.refl NoB wc
      have krd := kr.drew
      have d0 := (HFS.out.on krd).c0
      have d1 := (HP.out.on krd).cell 0 _ rfl
      go_region_held3 (fun wz => wz.cell? ⟨F, 0, none⟩ = some (.pointer (some ⟨a, 0, none⟩)) ∧ wz.cell? ⟨HPB, 0, none⟩ = some (.int .i64 pn) ∧ Keeps NoB wc wz) (refine ⟨?_, ?_, ?_⟩ <;> first | with_reducible assumption | (with_reducible refine (HFS.out.on ?_).c0; (repeat (first | with_reducible assumption | (with_reducible exact Keeps.refl _ _) | (with_reducible refine Keeps.drew ?_) | (with_reducible refine Keeps.drewN ?_ _) | (with_reducible refine Keeps.alloc ?_ _) | (with_reducible refine Keeps.setCell ?_ (by first | exact Or.inl rfl | exact Or.inr (Nat.le_refl _) | exact Or.inr (by first | (simp; done) | (simp; omega))) _))); done) | (with_reducible refine (HP.out.on ?_).cell 0 _ rfl; (repeat (first | with_reducible assumption | (with_reducible exact Keeps.refl _ _) | (with_reducible refine Keeps.drew ?_) | (with_reducible refine Keeps.drewN ?_ _) | (with_reducible refine Keeps.alloc ?_ _) | (with_reducible refine Keeps.setCell ?_ (by first | exact Or.inl rfl | exact Or.inr (Nat.le_refl _) | exact Or.inr (by first | (simp; done) | (simp; omega))) _))); done) | ((repeat (first | with_reducible assumption | (with_reducible exact Keeps.refl _ _) | (with_reducible refine Keeps.drew ?_) | (with_reducible refine Keeps.drewN ?_ _) | (with_reducible refine Keeps.alloc ?_ _) | (with_reducible refine Keeps.setCell ?_ (by first | exact Or.inl rfl | exact Or.inr (Nat.le_refl _) | exact Or.inr (by first | (simp; done) | (simp; omega))) _))); done))
        (first | (go_at_call 22; refine (HIn.out _ (by (repeat (first | with_reducible assumption | (with_reducible exact Keeps.refl _ _) | (with_reducible refine Keeps.drew ?_) | (with_reducible refine Keeps.drewN ?_ _) | (with_reducible refine Keeps.alloc ?_ _) | (with_reducible refine Keeps.setCell ?_ (by first | exact Or.inl rfl | exact Or.inr (Nat.le_refl _) | exact Or.inr (by first | (simp; done) | (simp; omega))) _))))).mono ?_; rintro e w2 ⟨rfl, hk2⟩; have zky : Keeps NoB wc w2 := Keeps.trans (by (repeat (first | with_reducible assumption | (with_reducible exact Keeps.refl _ _) | (with_reducible refine Keeps.drew ?_) | (with_reducible refine Keeps.drewN ?_ _) | (with_reducible refine Keeps.alloc ?_ _) | (with_reducible refine Keeps.setCell ?_ (by first | exact Or.inl rfl | exact Or.inr (Nat.le_refl _) | exact Or.inr (by first | (simp; done) | (simp; omega))) _)))) hk2; have zs := zky.size; have z0 := (HFS.out.on zky).c0; have z1 := (HP.out.on zky).cell 0 _ rfl; (try (have yb := Bx.newD hk2; have y0 := yb.cell 0 _ rfl; have y1 := yb.cell 1 _ rfl; have y2 := yb.cell 2 _ rfl; have y3 := yb.cell 3 _ rfl; have y4 := yb.cell 4 _ rfl; have yf := yb.fz))))
      all_goals (go_wp2_with fail; go_meet; refine ⟨_, ?_, rfl, rfl, ?_, ?_⟩)
      all_goals first
        | exact Nat.le_refl _
        | exact zs
        | (with_reducible exact Bx.new (Keeps.refl NoB _))
        | (exact ((((yb.put 0 _).put 1 _).put 2 _).put 3 _).put 4 _)
        | ((repeat (first | with_reducible assumption | (with_reducible exact Keeps.refl _ _) | (with_reducible refine Keeps.drew ?_) | (with_reducible refine Keeps.drewN ?_ _) | (with_reducible refine Keeps.alloc ?_ _) | (with_reducible refine Keeps.setCell ?_ (by first | exact Or.inl rfl | exact Or.inr (Nat.le_refl _) | exact Or.inr (by first | (simp; done) | (simp; omega))) _))); done)
        | skip
    case rest =>
      obtain ⟨HIB, hG, rfl, rfl, HI, hk1⟩ := hcut
      replace HI := Lib.hid HI
      clear f0 b0 HIn hG
      replace HFS := Lib.hid (HFS.out.on hk1)
      replace HK := Lib.hid (HK.out.trans hk1.of_none)
      replace HW := Lib.hid (HW.out.on hk1)
      replace HR := Lib.hid (HR.out.on hk1)
      replace HP := Lib.hid (HP.out.on hk1)
      clear hk1
      have i0 := HI.out.cell 0 _ rfl
      have i1 := HI.out.cell 1 _ rfl
      have i2 := HI.out.cell 2 _ rfl
      have i3 := HI.out.cell 3 _ rfl
      have i4 := HI.out.cell 4 _ rfl
      have p0 := HP.out.cell 0 _ rfl
      have hP2 := HP.out.lt
      have hI2 := HI.out.lt
      have r0 := HR.out.cell 0 _ rfl
      have r1 := HR.out.cell 1 _ rfl
      have r2 := HR.out.cell 2 _ rfl
      have r3 := HR.out.cell 3 _ rfl
      have r4 := HR.out.cell 4 _ rfl
      have rf := HR.out.fz
      have rl := HR.out.lt
      have kk := HK.out
      go_upto_region 5 with fail
      go_region
      all_goals
        go_wp2_with fail
        (try simp only [Exit.inBlock, Exit.then])
        refine bodyPost_ret (v := .tuple #[.int .i64 pn, .agg #[.int .i64 ik, .int .i64 im, .int .i64 il, .int .i64 ih, .int .i64 iz], .int .i64 ie]) ?_ rfl ?_
        · rw [results_tmp_cell_tmp rfl]; go_simp
        · refine ⟨by rw [show statV d (⟨pn, pd, pm⟩, pe) = infoAt d pn by unfold statV; rw [if_neg (by rw [HNo.out]; simp)], HIE.out, show statE d (⟨pn, pd, pm⟩, pe) = ie by unfold statE; rw [if_neg (by rw [HNo.out]; simp)]; exact HIE2.out], ?_⟩
          (repeat (first | with_reducible assumption | (with_reducible exact Keeps.refl _ _) | (with_reducible refine Keeps.drew ?_) | (with_reducible refine Keeps.drewN ?_ _) | (with_reducible refine Keeps.alloc ?_ _) | (with_reducible refine Keeps.setCell ?_ (by first | exact Or.inl rfl | exact Or.inr (Nat.le_refl _) | exact Or.inr (by first | (simp; done) | (simp; omega))) _)))

end
end Go.Proofs.YtfomkkoecelakaaDoor
