/-
  Contracts of package walk: into, step.
-/
import Derived.Test.YtnaenhekjdmlaaaGreatDoorG02
import Derived.Test.YtnaenhekjdmlaaaGreatDoorG03
import Derived.Test.YtnaenhekjdmlaaaGreatDoorG01
import Derived.Deep.RegionHeld3

set_option linter.unusedSimpArgs false
set_option linter.unusedVariables false
set_option maxRecDepth 100000
set_option maxHeartbeats 2000000
namespace Go.Proofs.YtnaenhekjdmlaaaGreatDoor
open Go Go.RowKit
section
variable {R : RD} {w0 w w' : World} {a g : Nat} {d : Nds} {room us : Int} {lk up : Int -> Int}
theorem info_k (h : Rep R w a d room us lk up) (i : Int) (er : Int) (he : er = if has d i then 0 else 12) :
 Calls Tryz.prog 64 #[.pointer (some ⟨a, 0, none⟩), .int .i64 i] w fun e w' =>
  ∃ m l hh z : Int, (has d i -> m = (nd d i).mode) ∧ e = .returned (.tuple #[.agg #[.int .i64 (nd d i).kind, .int .i64 m, .int .i64 l, .int .i64 hh, .int .i64 z], .int .i64 er]) ∧ Keeps NoB w w' := by
 subst he
 refine (info_any h i).mono ?_
 rintro e w' ⟨rfl, hk⟩
 by_cases hi : has d i
 ·refine ⟨(nd d i).mode, lk i, (nd d i).holds, sizeOf4 (nd d i), fun _ => rfl, ?_, hk⟩
  rw [if_pos hi]
  rfl
 ·refine ⟨0, 0, 0, 0, fun h => absurd h hi, ?_, hk⟩
  rw [if_neg hi, not_has hi]
  rfl
structure Wkr (w : World) (g a : Nat) (at' : Int) (n : Nat) : Prop where
 lt : g < w.heap.size
 c0 : w.cell? ⟨g, 0, none⟩ = some (.pointer (some ⟨a, 0, none⟩))
 c1 : w.cell? ⟨g, 1, none⟩ = some (.int .i64 at')
 c2 : w.cell? ⟨g, 2, none⟩ = some (.int .i64 n)
 fz : ∀ j, w.frozen? ⟨g, j, none⟩ = false
theorem Wkr.keep {F : Nat -> Prop} {at' : Int} {n : Nat} (h : Wkr w g a at' n) (k : Keeps F w w') (hF : ¬ F g) : Wkr w' g a at' n :=
 ⟨Nat.lt_of_lt_of_le h.lt k.size, (k.cell (p := ⟨g, 0, none⟩) h.lt hF).trans h.c0, (k.cell (p := ⟨g, 1, none⟩) h.lt hF).trans h.c1, (k.cell (p := ⟨g, 2, none⟩) h.lt hF).trans h.c2, fun j => (k.frozen (p := ⟨g, j, none⟩) h.lt hF).trans (h.fz j)⟩
theorem Wkr.on {at' : Int} {n : Nat} (h : Wkr w g a at' n) (k : Keeps NoB w w') : Wkr w' g a at' n := h.keep k (fun h => h)
theorem bits64 : ∀ n : Fin 4096, (bits BinOp.and IntKind.i64 (n.val : Int) 64 == 0) = decide ((n.val : Int) / 64 % 2 = 0) := by decide +kernel
theorem bits64_of (m : Int) (h0 : 0 <= m) (h1 : m <= 4095) : (bits BinOp.and IntKind.i64 m 64 == 0) = decide (m / 64 % 2 = 0) := by
 have := bits64 ⟨m.toNat, by omega⟩
 simp only [Int.toNat_of_nonneg h0] at this
 exact this
theorem boxedD {w w1 : World} {cs : Array Value} {T : TypeId} (k : Keeps NoB (w.alloc (.cells cs T)).drew w1) (j : Nat) (v : Value) (h : cs[j]? = some v) : w1.cell? ⟨w.heap.size, j, none⟩ = some v :=
 boxed ((Keeps.refl NoB _).drew.trans k) j v h
theorem boxedF {w w1 : World} {cs : Array Value} {T : TypeId} (k : Keeps NoB (w.alloc (.cells cs T)).drew w1) (j : Nat) : w1.frozen? ⟨w.heap.size, j, none⟩ = false :=
 boxedz ((Keeps.refl NoB _).drew.trans k) j
theorem into_any (h : Rep R w0 a d room us lk up) (k : Keeps NoB w0 w) {at' : Int} {n : Nat} (hw : Wkr w g a at' n) (hI : DInv d) :
 Calls Tryz.prog 96 #[.pointer (some ⟨g, 0, none⟩)] w fun e w' => e = .returned (.int .i64 (intoErr d at')) ∧ Keeps NoB w w' := by
 obtain ⟨er, her⟩ : ∃ er : Int, er = if has d at' then 0 else 12 := ⟨_, rfl⟩
 have HIn := Lib.hid (fun (w1 : World) (hk : Keeps NoB w w1) => info_k (h.keepN (k.trans hk)) at' er her)
 have Her := Lib.hid her
 clear her
 have c0 := hw.c0
 have c1 := hw.c1
 go_enter Tryz.func96, Tryz.ntmps96
 go_upto_region 1 with fail
 go_cut [3, 4] from 3 to 16 (fun x y wx => ∃ (G : Nat) (m l hh z : Int), (has d at' -> m = (nd d at').mode) ∧ x = .pointer (some ⟨G, 0, none⟩) ∧ y = .int .i64 er ∧ wx.cell? ⟨G, 0, none⟩ = some (.int .i64 (nd d at').kind) ∧ wx.cell? ⟨G, 1, none⟩ = some (.int .i64 m) ∧ Keeps NoB w wx)
 case first =>
  have kr := Keeps.refl NoB w
  have krd := kr.drew
  have d0 := (hw.on krd).c0
  have d1 := (hw.on krd).c1
  go_region_held3 (fun wz => wz.cell? ⟨g, 0, none⟩ = some (.pointer (some ⟨a, 0, none⟩)) ∧ wz.cell? ⟨g, 1, none⟩ = some (.int .i64 at') ∧ Keeps NoB w wz) (refine ⟨?_, ?_, ?_⟩ <;> first | with_reducible assumption | (with_reducible refine (hw.on ?_).c0; (repeat (first | with_reducible assumption | (with_reducible exact Keeps.refl _ _) | (with_reducible refine Keeps.drew ?_) | (with_reducible refine Keeps.alloc ?_ _) | (with_reducible refine Keeps.setCell ?_ (Or.inr (by first | exact Nat.le_refl _ | (simp; omega))) _))); done) | (with_reducible refine (hw.on ?_).c1; (repeat (first | with_reducible assumption | (with_reducible exact Keeps.refl _ _) | (with_reducible refine Keeps.drew ?_) | (with_reducible refine Keeps.alloc ?_ _) | (with_reducible refine Keeps.setCell ?_ (Or.inr (by first | exact Nat.le_refl _ | (simp; omega))) _))); done) | ((repeat (first | with_reducible assumption | (with_reducible exact Keeps.refl _ _) | (with_reducible refine Keeps.drew ?_) | (with_reducible refine Keeps.alloc ?_ _) | (with_reducible refine Keeps.setCell ?_ (Or.inr (by first | exact Nat.le_refl _ | (simp; omega))) _))); done))
   (first | (go_at_call 64; refine (HIn.out _ (by (repeat (first | with_reducible assumption | (with_reducible exact Keeps.refl _ _) | (with_reducible refine Keeps.drew ?_) | (with_reducible refine Keeps.alloc ?_ _) | (with_reducible refine Keeps.setCell ?_ (Or.inr (by first | exact Nat.le_refl _ | (simp; omega))) _))))).mono ?_; rintro e w1 ⟨m, l, hh, z, hm, rfl, hk1⟩; have zky : Keeps NoB w w1 := Keeps.trans (by (repeat (first | with_reducible assumption | (with_reducible exact Keeps.refl _ _) | (with_reducible refine Keeps.drew ?_) | (with_reducible refine Keeps.alloc ?_ _) | (with_reducible refine Keeps.setCell ?_ (Or.inr (by first | exact Nat.le_refl _ | (simp; omega))) _)))) hk1; have zs := zky.size; have z0 := (hw.on zky).c0; have z1 := (hw.on zky).c1; (try (have b0 := boxedD hk1 0 _ rfl; have b1 := boxedD hk1 1 _ rfl; have b2 := boxedD hk1 2 _ rfl; have b3 := boxedD hk1 3 _ rfl; have b4 := boxedD hk1 4 _ rfl; have f0 := boxedF hk1))))
  all_goals (go_wp2_with fail; go_meet; refine ⟨_, m, l, hh, z, hm, rfl, rfl, ?_, ?_, ?_⟩)
  all_goals first
   | (with_reducible exact boxed (Keeps.refl NoB _) 0 _ rfl)
   | (with_reducible exact boxed (Keeps.refl NoB _) 1 _ rfl)
   | ((repeat (first | with_reducible assumption | (with_reducible exact Keeps.refl _ _) | (with_reducible refine Keeps.drew ?_) | (with_reducible refine Keeps.alloc ?_ _) | (with_reducible refine Keeps.setCell ?_ (Or.inr (by first | exact Nat.le_refl _ | (simp; omega))) _))); done)
   | (go_simp; done)
   | skip
 case rest =>
  obtain ⟨G, m, l, hh, z, hm, rfl, rfl, i0, i1, hk1⟩ := hcut
  clear c0 c1 HIn
  have her := Her.out
  clear Her
  have HI := Lib.hid (show intoErr d at' = if er ≠ 0 then er else if (nd d at').kind ≠ 2 then 14 else if (bits BinOp.and IntKind.i64 m 64 == 0) = true then 19 else 0 by
   unfold intoErr folderErr
   by_cases hi : has d at'
   ·have hk : ¬ (nd d at').kind = 0 := hi
    rw [if_pos hi] at her
    rw [hm hi, bits64_of _ (hI.node at').mode0 (hI.node at').mode1, her]
    by_cases h2 : (nd d at').kind = 2
    ·simp [h2]
    ·simp [h2, hk]
   ·rw [if_neg hi] at her
    rw [her, not_has hi]
    simp)
  clear her
  go_wp2_with fail
  all_goals
   go_ret
   refine ⟨ret_i64 ?_, hk1⟩
   rw [HI.out]
   simp_all
end
end Go.Proofs.YtnaenhekjdmlaaaGreatDoor
namespace Go.Proofs.YtnaenhekjdmlaaaGreatDoor
open Go.RowKit
set_option maxRecDepth 100000
set_option maxHeartbeats 1000000
def rootNd : Nd := ⟨2, 493, 0, ⟨#[]⟩, []⟩
def newD : Nds := [Nd.gone, rootNd]
theorem nd_new (i : Int) : nd newD i = if i = 1 then rootNd else Nd.gone := by
 unfold nd newD
 by_cases h0 : 0 <= i
 ·rw [if_pos h0]
  by_cases h1 : i = 1
  ·subst h1; rfl
  ·rw [if_neg h1]
   by_cases h2 : i = 0
   ·subst h2; rfl
   ·rw [List.getElem?_eq_none (by simp; omega)]; rfl
 ·rw [if_neg h0, if_neg (by omega)]
theorem has_new (i : Int) : has newD i ↔ i = 1 := by
 unfold has
 rw [nd_new]
 split
 ·next e => exact ⟨fun _ => e, fun _ => by decide⟩
 ·next e => exact ⟨fun h => absurd rfl h, fun h => absurd h e⟩
theorem cnt_new (i : Int) : cnt newD i = 0 := by simp [cnt, sumBy, newD, namesOf, Nd.gone, rootNd]
theorem used_new : used newD = 0 := by decide
theorem mass_new : mass newD = 2 := by decide
theorem count_new : count newD = 1 := by decide
theorem ents_new (i : Int) : (nd newD i).ents = [] := by rw [nd_new]; split <;> rfl
theorem noGarb_new : NoGarb newD := fun i h => by
 have := (has_new i).1 h.1
 subst this
 exact DInv.not_garb_root h
theorem inv_new : DInv newD := by
 refine ⟨by decide, by rw [nd_new]; rfl, by rw [nd_new]; rfl, fun i => ?_, fun i e h => ?_, fun i h => ?_, fun i => ⟨i, fun j hj => ?_⟩⟩
 ·rw [nd_new]
  split
  ·exact ⟨by decide, by decide, (fun h => by cases h), by decide, by decide, by decide, by decide, fun _ => rfl, fun _ => rfl, List.Pairwise.nil, (fun _ h => by cases h)⟩
  ·exact NdOk.none
 ·rw [ents_new] at h; cases h
 ·have := cnt_new i
  unfold links
  split <;> omega
 ·obtain ⟨_, e, h, _⟩ := hj
  rw [ents_new] at h; cases h
theorem disk_new {w : World} {B A G : Nat} {room : Int} (h0 : w.cell? ⟨A, 0, none⟩ = some (.map (some B))) (h1 : w.cell? ⟨A, 1, none⟩ = some (.int .i64 2)) (h2 : w.cell? ⟨A, 2, none⟩ = some (.int .i64 0)) (h3 : w.cell? ⟨A, 3, none⟩ = some (.int .i64 room))
 (hfz : ∀ j, w.frozen? ⟨A, j, none⟩ = false) (hm : IMap w B [(1, .pointer (some ⟨G, 0, none⟩))]) (hN : NodeAt w G (.slice none 0 0) (.slice none 0 0) rootNd 1 1) (hAB : A ≠ B) (hAG : A ≠ G) (hBG : B ≠ G) (hr : 0 <= room) (hr2 : room <= 9223372036854775807) :
 ∃ R, IsDisk R w A newD room ∧ ∀ x, x ≠ A -> x ≠ B -> x ≠ G -> R.tag x = .none := by
 refine ⟨⟨B, [(1, .pointer (some ⟨G, 0, none⟩))], fun _ => G, fun _ => .slice none 0 0, fun _ => .slice none 0 0, fun x => if x = A then .disk else if x = B then .map else if x = G then .node 1 else .none⟩,
  ⟨⟨fun _ => 1, fun _ => 1, ⟨h0, h1, h2, h3, hfz, if_pos rfl, ?_, hm, fun i => ?_, count_new.symm, fun i hi => ?_, (fun i hi x hx => by simp [Value.ownBlock] at hx), (fun i hi x hx => by simp [Value.ownBlock] at hx), fun i hi => ?_, fun x hx => ?_⟩, inv_new, fun i hi => ?_, fun i hi => absurd hi (by unfold zp; omega),
    fun i hi => ⟨fun j hj => ?_, fun _ => rfl, fun h => by cases h⟩, by unfold smallD; rw [mass_new]; decide, fun _ _ => by decide⟩, noGarb_new, by rw [used_new]; exact hr, hr2⟩, fun x x1 x2 x3 => ?_⟩
 ·show (if B = A then _ else if B = B then _ else _) = _
  rw [if_neg (fun e => hAB e.symm), if_pos rfl]
 ·simp only [has_new, kvGet, List.find?_cons, List.find?_nil]
  by_cases e : i = 1
  ·subst e; rfl
  ·have : ¬ (1 : Int) = i := fun h => e h.symm
   simp [e, this]
 ·have := (has_new i).1 hi
  subst this
  show (if G = A then _ else if G = B then _ else if G = G then _ else _) = _
  rw [if_neg (fun e => hAG e.symm), if_neg (fun e => hBG e.symm), if_pos rfl]
 ·have := (has_new i).1 hi
  subst this
  rw [nd_new, if_pos rfl]
  exact hN
 ·show (if x = A then _ else if x = B then _ else if x = G then _ else _) = _
  have e1 := lt_of_cell h0
  have e2 := hm.lt
  have e3 := hN.lt
  simp only at e1
  rw [if_neg (by omega), if_neg (by omega), if_neg (by omega)]
 ·have := (has_new i).1 hi
  subst this
  have := cnt_new 1
  unfold links zp
  rw [this]; rfl
 ·obtain ⟨_, e, h, _⟩ := hj
  rw [ents_new] at h; cases h
 ·show (if x = A then _ else if x = B then _ else if x = G then _ else _) = _
  rw [if_neg x1, if_neg x2, if_neg x3]
structure Here (W : World) (R : RD) (w : World) (a : Nat) (d : Nds) (room : Int) : Prop where
 disk : IsDisk R w a d room
 keeps : Keeps NoB W w
 tag : ∀ x, x < W.heap.size -> R.tag x = .none
def HereTo (W w : World) (a : Nat) (d : Nds) (room : Int) : Prop := ∃ R, Here W R w a d room
theorem Here.to {W : World} {R : RD} {w w' : World} {a : Nat} {d d' : Nds} {room : Int} (h : Here W R w a d room) (t : DiskTo R w a d' room w') : HereTo W w' a d' room := by
 obtain ⟨R', h1, h2⟩ := t
 have hs := h.keeps.size
 refine ⟨R', h1, h.keeps.step h2.keeps (fun g hg => ?_), fun x hx => by rw [h2.same x (by omega)]; exact h.tag x hx⟩
 by_cases hl : g < W.heap.size
 ·exact absurd (h.tag g hl) hg
 ·exact .inr (by omega)
theorem Here.on {W : World} {R : RD} {w w' : World} {a : Nat} {d : Nds} {room : Int} (h : Here W R w a d room) (k : Keeps NoB w w') : Here W R w' a d room := ⟨h.disk.keepN k, h.keeps.trans k, h.tag⟩
theorem HereTo.on {W w w' : World} {a : Nat} {d : Nds} {room : Int} (h : HereTo W w a d room) (k : Keeps NoB w w') : HereTo W w' a d room := by
 obtain ⟨R, h⟩ := h
 exact ⟨R, h.on k⟩
theorem HereTo.keeps {W w : World} {a : Nat} {d : Nds} {room : Int} (h : HereTo W w a d room) : Keeps NoB W w := by
 obtain ⟨R, h⟩ := h
 exact h.keeps
theorem IsDisk.top {R : RD} {w : World} {a : Nat} {d : Nds} {room : Int} (h : IsDisk R w a d room) : ∀ x, R.F x -> x < w.heap.size := fun x hx => by
 obtain ⟨⟨lk, up, hC⟩, _, _, _⟩ := h
 by_cases hl : x < w.heap.size
 ·exact hl
 ·exact absurd (hC.rep.top x (by omega)) hx
theorem Here.call {W : World} {R : RD} {w wx w' : World} {a : Nat} {d d' : Nds} {room : Int} (h : Here W R w a d room) (k : Keeps NoB w wx) (t : DiskTo R wx a d' room w') :
 HereTo W w' a d' room ∧ Keeps (fun g => g < w.heap.size) wx w' := by
 refine ⟨(h.on k).to t, ?_⟩
 obtain ⟨R', _, h2⟩ := t
 exact h2.keeps.mono (fun x _ hx => h.disk.top x hx)
theorem new_end {w w5 : World} {room : Int} (hr : 0 <= room) (hr2 : room <= 9223372036854775807) (T1 T2 : TypeId) {G : Nat} (hG : G = w.heap.size + 2) (hm5 : IMap w5 w.heap.size [(1, .pointer (some ⟨G, 0, none⟩))])
 (hk5 : Keeps (fun g => g = w.heap.size) (((w.alloc (.map #[] 0)).alloc (.cells #[.map (some w.heap.size), .int .i64 2, .int .i64 0, .int .i64 room] T1)).alloc (.cells #[.int .i64 2, .int .i64 493, .int .i64 1, .int .i64 0, .slice none 0 0, .slice none 0 0, .int .i64 1] T2)) w5) :
 HereTo w w5 (w.heap.size + 1) newD room := by
 subst hG
 have s1 : (w.alloc (.map #[] 0)).heap.size = w.heap.size + 1 := by simp
 have s2 : ((w.alloc (.map #[] 0)).alloc (.cells #[.map (some w.heap.size), .int .i64 2, .int .i64 0, .int .i64 room] T1)).heap.size = w.heap.size + 2 := by simp
 have n1 := heap_alloc_new (w.alloc (.map #[] 0)) (.cells #[.map (some w.heap.size), .int .i64 2, .int .i64 0, .int .i64 room] T1)
 have n2 := heap_alloc_new ((w.alloc (.map #[] 0)).alloc (.cells #[.map (some w.heap.size), .int .i64 2, .int .i64 0, .int .i64 room] T1)) (.cells #[.int .i64 2, .int .i64 493, .int .i64 1, .int .i64 0, .slice none 0 0, .slice none 0 0, .int .i64 1] T2)
 rw [s1] at n1
 rw [s2] at n2
 have n1' := (Below.heap_alloc ((w.alloc (.map #[] 0)).alloc (.cells #[.map (some w.heap.size), .int .i64 2, .int .i64 0, .int .i64 room] T1)) (.cells #[.int .i64 2, .int .i64 493, .int .i64 1, .int .i64 0, .slice none 0 0, .slice none 0 0, .int .i64 1] T2) (w.heap.size + 1) (by omega)).trans n1
 have k0 : Keeps NoB w (((w.alloc (.map #[] 0)).alloc (.cells #[.map (some w.heap.size), .int .i64 2, .int .i64 0, .int .i64 room] T1)).alloc (.cells #[.int .i64 2, .int .i64 493, .int .i64 1, .int .i64 0, .slice none 0 0, .slice none 0 0, .int .i64 1] T2)) := (((Keeps.refl NoB w).alloc _).alloc _).alloc _
 have s3 : (((w.alloc (.map #[] 0)).alloc (.cells #[.map (some w.heap.size), .int .i64 2, .int .i64 0, .int .i64 room] T1)).alloc (.cells #[.int .i64 2, .int .i64 493, .int .i64 1, .int .i64 0, .slice none 0 0, .slice none 0 0, .int .i64 1] T2)).heap.size = w.heap.size + 3 := by simp
 have b1 := (hk5.block (w.heap.size + 1) (by omega) (by omega)).trans n1'
 have b2 := (hk5.block (w.heap.size + 2) (by omega) (by omega)).trans n2
 have hA : ∀ j v, (#[.map (some w.heap.size), .int .i64 2, .int .i64 0, .int .i64 room] : Array Value)[j]? = some v -> w5.cell? ⟨w.heap.size + 1, j, none⟩ = some v := fun j v hv => by
  rw [cell_of_row w5 _ j _ T1 (0, 0) b1]; exact hv
 have hB : ∀ j v, (#[.int .i64 2, .int .i64 493, .int .i64 1, .int .i64 0, .slice none 0 0, .slice none 0 0, .int .i64 1] : Array Value)[j]? = some v -> w5.cell? ⟨w.heap.size + 2, j, none⟩ = some v := fun j v hv => by
  rw [cell_of_row w5 _ j _ T2 (0, 0) b2]; exact hv
 have hN : NodeAt w5 (w.heap.size + 2) (.slice none 0 0) (.slice none 0 0) rootNd 1 1 :=
  ⟨hB 0 _ rfl, hB 1 _ rfl, hB 2 _ rfl, hB 3 _ rfl, hB 4 _ rfl, OwnB.nil _ _, ⟨hB 5 _ rfl, frozen_of_row w5 _ 5 _ T2 b2, rfl, Own.nil _ _ _ _, List.Pairwise.nil, (fun _ h => by cases h), (fun h => by simp [Value.ownBlock] at h)⟩, hB 6 _ rfl, fun j => frozen_of_row w5 _ j _ T2 b2⟩
 obtain ⟨R, hD, hT⟩ := disk_new (A := w.heap.size + 1) (hA 0 _ rfl) (hA 1 _ rfl) (hA 2 _ rfl) (hA 3 _ rfl) (fun j => frozen_of_row w5 _ j _ T1 b1) hm5 hN (by omega) (by omega) (by omega) hr hr2
 exact ⟨R, hD, k0.step hk5 (fun g hg => .inr (by omega)), fun x hx => hT x (by omega) (by omega) (by omega)⟩
theorem new_any (w : World) (room : Int) (hr2 : room <= 9223372036854775807) :
 Calls Tryz.prog 46 #[.int .i64 room] w fun e w' => if room < 0 then e = .returned (.tuple #[.pointer none, .int .i64 10]) ∧ w = w' else
  ∃ a, e = .returned (.tuple #[.pointer (some ⟨a, 0, none⟩), .int .i64 0]) ∧ HereTo w w' a newD room := by
 by_cases hr : room < 0
 ·simp only [if_pos hr]
  go_enter Tryz.func46, Tryz.ntmps46
  go_wp2
  go_ret2
  exact ⟨rfl, rfl⟩
 ·simp only [if_neg hr]
  have hmk : ∀ wx : World, (Instr.makeMap 106 none).run Tryz.prog wx = .ok (.map (some wx.heap.size)) (wx.alloc (.map #[] 0)) := fun _ => rfl
  go_enter Tryz.func46, Tryz.ntmps46
  go_wp2_with (at_mapUpdate; refine wpl_mapUpdate rfl (.tmp 14) (.const (.int .i64 1)) (.tmp 16) _ rfl Tryz.underlying106 Tryz.underlying3 rfl (((IMap.made w).keep ((Keeps.refl NoB _).alloc _) (fun h => h)).keep ((Keeps.refl NoB _).alloc _) (fun h => h)) rfl rfl rfl ?_; intro w5 hm5 hk5)
  go_ret2
  exact ⟨_, rfl, new_end hr hr2 _ _ (by simp) hm5 hk5⟩
end Go.Proofs.YtnaenhekjdmlaaaGreatDoor
