/-
  Contracts of the reference for layer 4, the seventh part: Leave.
-/
import Derived.Test.YtimidmogcbapnaaGreatDoorG06
import Derived.Test.YtimidmogcbapnaaGreatDoorG05
import Derived.Test.YtimidmogcbapnaaGreatDoorG01
import Derived.Test.YtimidmogcbapnaaGreatDoorG03
import Derived.Deep.RegionHeld3

set_option linter.unusedSimpArgs false
set_option linter.unusedVariables false
namespace Go.Proofs.YtimidmogcbapnaaGreatDoor
open Go.RowKit
set_option maxRecDepth 100000
set_option maxHeartbeats 1000000
section
variable {S : Nat -> Prop} {w : World} {p : Option Addr} {c : Nat} {d : Nds} {room : Int}
theorem boxedz {w w1 : World} {cs : Array Value} {T : TypeId} (hk : Keeps NoB (w.alloc (.cells cs T)) w1) (j : Nat) : w1.frozen? ⟨w.heap.size, j, none⟩ = false := by
 have hn := heap_alloc_new w (.cells cs T)
 have h4 := (hk.block w.heap.size (by simp) (fun h => h)).trans hn
 exact frozen_of_row w1 _ j _ T h4
end
end Go.Proofs.YtimidmogcbapnaaGreatDoor
set_option maxRecDepth 100000
set_option maxHeartbeats 2000000
namespace Go.Proofs.YtimidmogcbapnaaGreatDoor
open Go Go.RowKit
section
variable {R : RD} {w0 w w' : World} {a g : Nat} {d : Nds} {room us : Int} {lk up : Int -> Int}
theorem info_k (h : Rep R w a d room us lk up) (i : Int) (er : Int) (he : er = if has d i then 0 else 12) :
 Calls Tryz.prog 37 #[.pointer (some ⟨a, 0, none⟩), .int .i64 i] w fun e w' =>
  ∃ m l hh z : Int, (has d i -> m = (nd d i).mode) ∧ e = .returned (.tuple #[.agg #[.int .i64 (nd d i).kind, .int .i64 m, .int .i64 l, .int .i64 hh, .int .i64 z], .int .i64 er]) ∧ Keeps NoB w w' := by
 subst he
 refine (info_any h i).mono ?_
 rintro e w' ⟨rfl, hk⟩
 by_cases hi : has d i
 ·refine ⟨(nd d i).mode, lk i, (nd d i).holds, sizeOf4 (nd d i), fun _ => rfl, ?_, hk⟩
  rw [if_pos hi]
  rfl
 ·refine ⟨0, 0, 0, 0, fun h => absurd h hi, ?_, hk⟩
  rw [if_neg hi, not_has hi]
  rfl
structure Wkr (w : World) (g a : Nat) (at' : Int) (n : Nat) : Prop where
 lt : g < w.heap.size
 c0 : w.cell? ⟨g, 0, none⟩ = some (.pointer (some ⟨a, 0, none⟩))
 c1 : w.cell? ⟨g, 1, none⟩ = some (.int .i64 at')
 c2 : w.cell? ⟨g, 2, none⟩ = some (.int .i64 n)
 fz : ∀ j, w.frozen? ⟨g, j, none⟩ = false
theorem Wkr.keep {F : Nat -> Prop} {at' : Int} {n : Nat} (h : Wkr w g a at' n) (k : Keeps F w w') (hF : ¬ F g) : Wkr w' g a at' n :=
 ⟨Nat.lt_of_lt_of_le h.lt k.size, (k.cell (p := ⟨g, 0, none⟩) h.lt hF).trans h.c0, (k.cell (p := ⟨g, 1, none⟩) h.lt hF).trans h.c1, (k.cell (p := ⟨g, 2, none⟩) h.lt hF).trans h.c2, fun j => (k.frozen (p := ⟨g, j, none⟩) h.lt hF).trans (h.fz j)⟩
theorem Wkr.on {at' : Int} {n : Nat} (h : Wkr w g a at' n) (k : Keeps NoB w w') : Wkr w' g a at' n := h.keep k (fun h => h)
theorem bits64 : ∀ n : Fin 4096, (bits BinOp.and IntKind.i64 (n.val : Int) 64 == 0) = decide ((n.val : Int) / 64 % 2 = 0) := by decide +kernel
theorem bits64_of (m : Int) (h0 : 0 <= m) (h1 : m <= 4095) : (bits BinOp.and IntKind.i64 m 64 == 0) = decide (m / 64 % 2 = 0) := by
 have := bits64 ⟨m.toNat, by omega⟩
 simp only [Int.toNat_of_nonneg h0] at this
 exact this
theorem boxedD {w w1 : World} {cs : Array Value} {T : TypeId} (k : Keeps NoB (w.alloc (.cells cs T)).drew w1) (j : Nat) (v : Value) (h : cs[j]? = some v) : w1.cell? ⟨w.heap.size, j, none⟩ = some v :=
 boxed ((Keeps.refl NoB _).drew.trans k) j v h
theorem boxedF {w w1 : World} {cs : Array Value} {T : TypeId} (k : Keeps NoB (w.alloc (.cells cs T)).drew w1) (j : Nat) : w1.frozen? ⟨w.heap.size, j, none⟩ = false :=
 boxedz ((Keeps.refl NoB _).drew.trans k) j
theorem into_any (h : Rep R w0 a d room us lk up) (k : Keeps NoB w0 w) {at' : Int} {n : Nat} (hw : Wkr w g a at' n) (hI : DInv d) :
 Calls Tryz.prog 46 #[.pointer (some ⟨g, 0, none⟩)] w fun e w' => e = .returned (.int .i64 (intoErr d at')) ∧ Keeps NoB w w' := by
 obtain ⟨er, her⟩ : ∃ er : Int, er = if has d at' then 0 else 12 := ⟨_, rfl⟩
 have HIn := Lib.hid (fun (w1 : World) (hk : Keeps NoB w w1) => info_k (h.keepN (k.trans hk)) at' er her)
 have Her := Lib.hid her
 clear her
 have c0 := hw.c0
 have c1 := hw.c1
 go_enter Tryz.func46, Tryz.ntmps46
 go_upto_region 1 with fail
 go_cut [3, 4] from 3 to 16 (fun x y wx => ∃ (G : Nat) (m l hh z : Int), (has d at' -> m = (nd d at').mode) ∧ x = .pointer (some ⟨G, 0, none⟩) ∧ y = .int .i64 er ∧ wx.cell? ⟨G, 0, none⟩ = some (.int .i64 (nd d at').kind) ∧ wx.cell? ⟨G, 1, none⟩ = some (.int .i64 m) ∧ Keeps NoB w wx)
 case first =>
  have kr := Keeps.refl NoB w
  have krd := kr.drew
  have d0 := (hw.on krd).c0
  have d1 := (hw.on krd).c1
  go_region_held3 (fun wz => wz.cell? ⟨g, 0, none⟩ = some (.pointer (some ⟨a, 0, none⟩)) ∧ wz.cell? ⟨g, 1, none⟩ = some (.int .i64 at') ∧ Keeps NoB w wz) (refine ⟨?_, ?_, ?_⟩ <;> first | with_reducible assumption | (with_reducible refine (hw.on ?_).c0; (repeat (first | with_reducible assumption | (with_reducible exact Keeps.refl _ _) | (with_reducible refine Keeps.drew ?_) | (with_reducible refine Keeps.alloc ?_ _) | (with_reducible refine Keeps.setCell ?_ (Or.inr (by first | exact Nat.le_refl _ | (simp; omega))) _))); done) | (with_reducible refine (hw.on ?_).c1; (repeat (first | with_reducible assumption | (with_reducible exact Keeps.refl _ _) | (with_reducible refine Keeps.drew ?_) | (with_reducible refine Keeps.alloc ?_ _) | (with_reducible refine Keeps.setCell ?_ (Or.inr (by first | exact Nat.le_refl _ | (simp; omega))) _))); done) | ((repeat (first | with_reducible assumption | (with_reducible exact Keeps.refl _ _) | (with_reducible refine Keeps.drew ?_) | (with_reducible refine Keeps.alloc ?_ _) | (with_reducible refine Keeps.setCell ?_ (Or.inr (by first | exact Nat.le_refl _ | (simp; omega))) _))); done))
   (first | (go_at_call 37; refine (HIn.out _ (by (repeat (first | with_reducible assumption | (with_reducible exact Keeps.refl _ _) | (with_reducible refine Keeps.drew ?_) | (with_reducible refine Keeps.alloc ?_ _) | (with_reducible refine Keeps.setCell ?_ (Or.inr (by first | exact Nat.le_refl _ | (simp; omega))) _))))).mono ?_; rintro e w1 ⟨m, l, hh, z, hm, rfl, hk1⟩; have zky : Keeps NoB w w1 := Keeps.trans (by (repeat (first | with_reducible assumption | (with_reducible exact Keeps.refl _ _) | (with_reducible refine Keeps.drew ?_) | (with_reducible refine Keeps.alloc ?_ _) | (with_reducible refine Keeps.setCell ?_ (Or.inr (by first | exact Nat.le_refl _ | (simp; omega))) _)))) hk1; have zs := zky.size; have z0 := (hw.on zky).c0; have z1 := (hw.on zky).c1; (try (have b0 := boxedD hk1 0 _ rfl; have b1 := boxedD hk1 1 _ rfl; have b2 := boxedD hk1 2 _ rfl; have b3 := boxedD hk1 3 _ rfl; have b4 := boxedD hk1 4 _ rfl; have f0 := boxedF hk1))))
  all_goals (go_wp2_with fail; go_meet; refine ⟨_, m, l, hh, z, hm, rfl, rfl, ?_, ?_, ?_⟩)
  all_goals first
   | (with_reducible exact boxed (Keeps.refl NoB _) 0 _ rfl)
   | (with_reducible exact boxed (Keeps.refl NoB _) 1 _ rfl)
   | ((repeat (first | with_reducible assumption | (with_reducible exact Keeps.refl _ _) | (with_reducible refine Keeps.drew ?_) | (with_reducible refine Keeps.alloc ?_ _) | (with_reducible refine Keeps.setCell ?_ (Or.inr (by first | exact Nat.le_refl _ | (simp; omega))) _))); done)
   | (go_simp; done)
   | skip
 case rest =>
  obtain ⟨G, m, l, hh, z, hm, rfl, rfl, i0, i1, hk1⟩ := hcut
  clear c0 c1 HIn
  have her := Her.out
  clear Her
  have HI := Lib.hid (show intoErr d at' = if er ≠ 0 then er else if (nd d at').kind ≠ 2 then 14 else if (bits BinOp.and IntKind.i64 m 64 == 0) = true then 19 else 0 by
   unfold intoErr folderErr
   by_cases hi : has d at'
   ·have hk : ¬ (nd d at').kind = 0 := hi
    rw [if_pos hi] at her
    rw [hm hi, bits64_of _ (hI.node at').mode0 (hI.node at').mode1, her]
    by_cases h2 : (nd d at').kind = 2
    ·simp [h2]
    ·simp [h2, hk]
   ·rw [if_neg hi] at her
    rw [her, not_has hi]
    simp)
  clear her
  go_wp2_with fail
  all_goals
   go_ret
   refine ⟨ret_i64 ?_, hk1⟩
   rw [HI.out]
   simp_all
end
end Go.Proofs.YtimidmogcbapnaaGreatDoor
namespace Go.Proofs.YtimidmogcbapnaaGreatDoor
open Go.RowKit
section
variable {d : Nds} {f t k : Int} {name other : ByteArray}
theorem MoveOk.free (M : MoveOk d f name t other k) (hcl : NoGarb d) : (∀ old, entGet (nd d t).ents other = some old -> Go.Proofs.YtimidmogcbapnaaGreatDoor.has (moveTo d f name t other k) old ∧ ∀ j, Garb (moveTo d f name t other k) j -> j = old) ∧
 (entGet (nd d t).ents other = none -> gc (moveTo d f name t other k) = moveTo d f name t other k) := by
 have hl := M.links
 refine ⟨fun old ho => ⟨(M.has old).2 (M.inv.tgt t _ (entGet_mem ho)).1, fun j hj => ?_⟩, fun ho => gc_same fun j hj => ?_⟩
 ·obtain ⟨g1, g2, g3⟩ := hj
  rw [M.holds] at g3
  have h2 := hl j
  unfold movePend at h2
  rw [ho] at h2
  simp only at h2
  unfold onePend at h2
  by_cases e : j = old
  ·exact e
  ·rw [if_neg e] at h2
   exact absurd ⟨(M.has j).1 g1, by omega, g3⟩ (hcl j)
 ·obtain ⟨g1, g2, g3⟩ := hj
  rw [M.holds] at g3
  have h2 := hl j
  unfold movePend at h2
  rw [ho] at h2
  simp only at h2
  unfold zp at h2
  exact hcl j ⟨(M.has j).1 g1, by omega, g3⟩
theorem MoveOk.small (M : MoveOk d f name t other k) (hs : smallD d) : smallD (moveTo d f name t other k) := by
 have := M.mass
 unfold smallD at *
 omega
end
end Go.Proofs.YtimidmogcbapnaaGreatDoor
