/-
  Contracts of package walk: step.
-/
import Derived.Test.YtimidmogcbapnaaGreatDoorG07
import Derived.Test.YtimidmogcbapnaaGreatDoorG08

set_option linter.unusedSimpArgs false
set_option linter.unusedVariables false
set_option maxRecDepth 100000
set_option maxHeartbeats 2000000
namespace Go.Proofs.YtimidmogcbapnaaGreatDoor
open Go Go.RowKit
section
variable {R : RD} {w0 w w' : World} {a g : Nat} {d : Nds} {room us : Int} {lk up : Int -> Int}
theorem Wkr.set {at' : Int} {n : Nat} (h : Wkr w g a at' n) {B : Nat} (hB : ¬ g = B) (j : Nat) (v : Value) : Wkr (w.setCell ⟨B, j, none⟩ v) g a at' n := h.keep (keeps_set _ _ _) hB
theorem Wkr.alloc {at' : Int} {n : Nat} (h : Wkr w g a at' n) (o : Obj) : Wkr (w.alloc o) g a at' n := h.on ((Keeps.refl NoB w).alloc o)
theorem Wkr.drew {at' : Int} {n : Nat} (h : Wkr w g a at' n) : Wkr w.drew g a at' n := h.on (Keeps.refl NoB w).drew
def StepTo (w : World) (g a : Nat) (at' : Int) (q : StepR) (e : Ending) (w' : World) : Prop :=
 e = .returned (.tuple #[plcV q.p, .string q.t, .int .i64 q.e]) ∧ Keeps (fun b => b = g) w w' ∧ Wkr w' g a at' q.n
theorem hid_into (h : Rep R w0 a d room us lk up) (k : Keeps NoB w0 w) {at' : Int} {n : Nat} (hw : Wkr w g a at' n) (hI : DInv d) :
 Hid (Calls Tryz.prog 46 #[.pointer (some ⟨g, 0, none⟩)] (w.alloc (.cells #[.int .i64 0, .int .i64 0, .string ⟨#[]⟩] 60)) fun e w' => e = .returned (.int .i64 (intoErr d at')) ∧ Keeps NoB (w.alloc (.cells #[.int .i64 0, .int .i64 0, .string ⟨#[]⟩] 60)) w') := by
 have kal : Keeps NoB w (w.alloc (.cells #[.int .i64 0, .int .i64 0, .string ⟨#[]⟩] 60)) := (Keeps.refl _ _).alloc _
 exact Lib.hid (into_any h (k.trans kal) (hw.on kal) hI)
theorem not_dot {x : ByteArray} (h : ¬ x = dotB) : (x.toList == [46]) = false := by
 have := toList_eq x dotB
 rw [show dotB.toList = [46] by rw [Lib.toList_data]] at this
 rw [this]; simpa using h
theorem not_dots {x : ByteArray} (h : ¬ x = dotsB) : (x.toList == [46, 46]) = false := by
 have := toList_eq x dotsB
 rw [show dotsB.toList = [46, 46] by rw [Lib.toList_data]] at this
 rw [this]; simpa using h
theorem step_into (h : Rep R w0 a d room us lk up) (k : Keeps NoB w0 w) {at' : Int} {n : Nat} (hw : Wkr w g a at' n) (hI : DInv d) (x : ByteArray) (follow : Bool)
 (hin : intoErr d at' ≠ 0) : Calls Tryz.prog 47 #[.pointer (some ⟨g, 0, none⟩), .string x, .bool follow] w (StepTo w g a at' ⟨.no, ⟨#[]⟩, intoErr d at', n⟩) := by
 have HIn := hid_into h k hw hI
 have hgB : ¬ g = w.heap.size := by have := hw.lt; omega
 have hne : (intoErr d at' != 0) = true := by simpa using hin
 go_enter Tryz.func47, Tryz.ntmps47
 go_wp2_with (go_at_call 46; refine HIn.out.mono ?_; rintro e w1 ⟨rfl, hk1⟩; have B0 := boxed hk1 0 _ rfl; have B1 := boxed hk1 1 _ rfl; have B2 := boxed hk1 2 _ rfl; have FB := boxedz hk1; have hw1 := hw.on ((Keeps.refl NoB w).alloc (.cells #[.int .i64 0, .int .i64 0, .string ⟨#[]⟩] 60) |>.trans hk1); have C0 := hw1.c0; have C1 := hw1.c1; have C2 := hw1.c2; have FZ := hw1.fz; have zlt : w.heap.size < w1.heap.size := Nat.lt_of_lt_of_le (by simp) hk1.size; have kw : Keeps (fun b => b = g) w w1 := Keeps.of_none (((Keeps.refl NoB w).alloc (.cells #[.int .i64 0, .int .i64 0, .string ⟨#[]⟩] 60)).trans hk1))
 (try simp only [Exit.inBlock, Exit.then])
 refine bodyPost_ret (v := .tuple #[plcV .no, .string ⟨#[]⟩, .int .i64 (intoErr d at')]) ?_ rfl ⟨rfl, ?_, ?_⟩
 ·rw [results_cell_tmp2 rfl]; (try unfold plcV); (try unfold Plc.no); (try unfold Plc.on); go_simp
 ·(repeat (first | with_reducible assumption | (with_reducible exact Keeps.refl _ _) | (with_reducible refine Keeps.drew ?_) | (with_reducible refine Keeps.alloc ?_ _) | (with_reducible refine Keeps.setCell ?_ (by first | exact Or.inl rfl | exact Or.inr (Nat.le_refl _) | exact Or.inr (by first | (simp; done) | (simp; omega))) _)))
 ·(repeat (first | with_reducible assumption | (with_reducible refine Wkr.set ?_ (by first | exact hgB | (simp; omega)) _ _) | (with_reducible refine Wkr.alloc ?_ _) | (with_reducible refine Wkr.drew ?_)))
theorem step_dot (h : Rep R w0 a d room us lk up) (k : Keeps NoB w0 w) {at' : Int} {n : Nat} (hw : Wkr w g a at' n) (hI : DInv d) (follow : Bool)
 (hin : intoErr d at' = 0) : Calls Tryz.prog 47 #[.pointer (some ⟨g, 0, none⟩), .string dotB, .bool follow] w (StepTo w g a at' ⟨.on at', ⟨#[]⟩, 0, n⟩) := by
 have HIn := hid_into h k hw hI
 rw [hin] at HIn
 have hgB : ¬ g = w.heap.size := by have := hw.lt; omega
 go_enter Tryz.func47, Tryz.ntmps47
 go_wp2_with (go_at_call 46; refine HIn.out.mono ?_; rintro e w1 ⟨rfl, hk1⟩; have B0 := boxed hk1 0 _ rfl; have B1 := boxed hk1 1 _ rfl; have B2 := boxed hk1 2 _ rfl; have FB := boxedz hk1; have hw1 := hw.on ((Keeps.refl NoB w).alloc (.cells #[.int .i64 0, .int .i64 0, .string ⟨#[]⟩] 60) |>.trans hk1); have C0 := hw1.c0; have C1 := hw1.c1; have C2 := hw1.c2; have FZ := hw1.fz; have zlt : w.heap.size < w1.heap.size := Nat.lt_of_lt_of_le (by simp) hk1.size; have kw : Keeps (fun b => b = g) w w1 := Keeps.of_none (((Keeps.refl NoB w).alloc (.cells #[.int .i64 0, .int .i64 0, .string ⟨#[]⟩] 60)).trans hk1))
 (try simp only [Exit.inBlock, Exit.then])
 refine bodyPost_ret (v := .tuple #[plcV (.on at'), .string ⟨#[]⟩, .int .i64 0]) ?_ rfl ⟨rfl, ?_, ?_⟩
 ·rw [results_cell_tmp2 rfl]; (try unfold plcV); (try unfold Plc.no); (try unfold Plc.on); go_simp
 ·(repeat (first | with_reducible assumption | (with_reducible exact Keeps.refl _ _) | (with_reducible refine Keeps.drew ?_) | (with_reducible refine Keeps.alloc ?_ _) | (with_reducible refine Keeps.setCell ?_ (by first | exact Or.inl rfl | exact Or.inr (Nat.le_refl _) | exact Or.inr (by first | (simp; done) | (simp; omega))) _)))
 ·(repeat (first | with_reducible assumption | (with_reducible refine Wkr.set ?_ (by first | exact hgB | (simp; omega)) _ _) | (with_reducible refine Wkr.alloc ?_ _) | (with_reducible refine Wkr.drew ?_)))
theorem step_up (h : Rep R w0 a d room us lk up) (k : Keeps NoB w0 w) {at' : Int} {n : Nat} (hw : Wkr w g a at' n) (hI : DInv d) (follow : Bool)
 (hin : intoErr d at' = 0) (hf : folderErr d at' = 0) : Calls Tryz.prog 47 #[.pointer (some ⟨g, 0, none⟩), .string dotsB, .bool follow] w (StepTo w g a at' ⟨.on (up at'), ⟨#[]⟩, 0, n⟩) := by
 have HIn := hid_into h k hw hI
 rw [hin] at HIn
 have HUp := Lib.hid (fun (w1 : World) (hk : Keeps NoB w0 w1) => up_any (h.keepN hk) at')
 rw [hf, if_pos rfl] at HUp
 have hgB : ¬ g = w.heap.size := by have := hw.lt; omega
 go_enter Tryz.func47, Tryz.ntmps47
 go_upto_region 7 with (first | (go_at_call 46; refine HIn.out.mono ?_; rintro e w1 ⟨rfl, hk1⟩; have B0 := boxed hk1 0 _ rfl; have B1 := boxed hk1 1 _ rfl; have B2 := boxed hk1 2 _ rfl; have FB := boxedz hk1; have hw1 := hw.on ((Keeps.refl NoB w).alloc (.cells #[.int .i64 0, .int .i64 0, .string ⟨#[]⟩] 60) |>.trans hk1); have C0 := hw1.c0; have C1 := hw1.c1; have C2 := hw1.c2; have FZ := hw1.fz; have zlt : w.heap.size < w1.heap.size := Nat.lt_of_lt_of_le (by simp) hk1.size; have kw : Keeps (fun b => b = g) w w1 := Keeps.of_none (((Keeps.refl NoB w).alloc (.cells #[.int .i64 0, .int .i64 0, .string ⟨#[]⟩] 60)).trans hk1)))
 have kz : Keeps NoB w0 w1 := (k.trans ((Keeps.refl NoB w).alloc _)).trans hk1
 go_cut [9] from 9 to 42 (fun x wx => x = .int .i64 (up at') ∧ Keeps NoB w1 wx)
 case first =>
  have kr := Keeps.refl NoB w1
  have krd := kr.drew
  have d0 := (hw1.on krd).c0
  have d1 := (hw1.on krd).c1
  go_region_held3 (fun wz => wz.cell? ⟨g, 0, none⟩ = some (.pointer (some ⟨a, 0, none⟩)) ∧ wz.cell? ⟨g, 1, none⟩ = some (.int .i64 at') ∧ Keeps NoB w1 wz) (refine ⟨?_, ?_, ?_⟩ <;> with_reducible assumption)
   (first | (go_at_call 86; refine (HUp.out _ (kz.trans (by (repeat (first | with_reducible assumption | (with_reducible exact Keeps.refl _ _) | (with_reducible refine Keeps.drew ?_) | (with_reducible refine Keeps.alloc ?_ _) | (with_reducible refine Keeps.setCell ?_ (by first | exact Or.inl rfl | exact Or.inr (Nat.le_refl _) | exact Or.inr (by first | (simp; done) | (simp; omega))) _)))))).mono ?_; rintro e w2 ⟨rfl, rfl⟩))
  all_goals (go_wp2_with fail; go_meet; exact ⟨rfl, by (repeat (first | with_reducible assumption | (with_reducible exact Keeps.refl _ _) | (with_reducible refine Keeps.drew ?_) | (with_reducible refine Keeps.alloc ?_ _) | (with_reducible refine Keeps.setCell ?_ (by first | exact Or.inl rfl | exact Or.inr (Nat.le_refl _) | exact Or.inr (by first | (simp; done) | (simp; omega))) _)))⟩)
 case rest =>
  obtain ⟨rfl, hk2⟩ := hcut
  clear B0 B1 B2 C0 C1 C2 kw
  replace hk1 := hk1.trans hk2
  clear zlt hw1 FZ FB
  generalize wc = w1 at *
  have B0 := boxed hk1 0 _ rfl; have B1 := boxed hk1 1 _ rfl; have B2 := boxed hk1 2 _ rfl; have FB := boxedz hk1; have hw1 := hw.on ((Keeps.refl NoB w).alloc (.cells #[.int .i64 0, .int .i64 0, .string ⟨#[]⟩] 60) |>.trans hk1); have C0 := hw1.c0; have C1 := hw1.c1; have C2 := hw1.c2; have FZ := hw1.fz; have zlt : w.heap.size < w1.heap.size := Nat.lt_of_lt_of_le (by simp) hk1.size; have kw : Keeps (fun b => b = g) w w1 := Keeps.of_none (((Keeps.refl NoB w).alloc (.cells #[.int .i64 0, .int .i64 0, .string ⟨#[]⟩] 60)).trans hk1)
  go_wp2_with fail
  (try simp only [Exit.inBlock, Exit.then])
  refine bodyPost_ret (v := .tuple #[plcV (.on (up at')), .string ⟨#[]⟩, .int .i64 0]) ?_ rfl ⟨rfl, ?_, ?_⟩
  ·rw [results_cell_tmp2 rfl]; (try unfold plcV); (try unfold Plc.no); (try unfold Plc.on); go_simp
  ·(repeat (first | with_reducible assumption | (with_reducible exact Keeps.refl _ _) | (with_reducible refine Keeps.drew ?_) | (with_reducible refine Keeps.alloc ?_ _) | (with_reducible refine Keeps.setCell ?_ (by first | exact Or.inl rfl | exact Or.inr (Nat.le_refl _) | exact Or.inr (by first | (simp; done) | (simp; omega))) _)))
  ·(repeat (first | with_reducible assumption | (with_reducible refine Wkr.set ?_ (by first | exact hgB | (simp; omega)) _ _) | (with_reducible refine Wkr.alloc ?_ _) | (with_reducible refine Wkr.drew ?_)))
theorem step_long (h : Rep R w0 a d room us lk up) (k : Keeps NoB w0 w) {at' : Int} {n : Nat} (hw : Wkr w g a at' n) (hI : DInv d) (x : ByteArray) (follow : Bool)
 (hin : intoErr d at' = 0) (h1 : ¬ x = dotB) (h2 : ¬ x = dotsB) (h3 : 255 < x.size) : Calls Tryz.prog 47 #[.pointer (some ⟨g, 0, none⟩), .string x, .bool follow] w (StepTo w g a at' ⟨.no, ⟨#[]⟩, 18, n⟩) := by
 have HIn := hid_into h k hw hI
 rw [hin] at HIn
 have hgB : ¬ g = w.heap.size := by have := hw.lt; omega
 have e1 : (x.toList == [46]) = false := not_dot h1
 have e2 : (x.toList == [46, 46]) = false := not_dots h2
 go_enter Tryz.func47, Tryz.ntmps47
 go_wp2_with (go_at_call 46; refine HIn.out.mono ?_; rintro e w1 ⟨rfl, hk1⟩; have B0 := boxed hk1 0 _ rfl; have B1 := boxed hk1 1 _ rfl; have B2 := boxed hk1 2 _ rfl; have FB := boxedz hk1; have hw1 := hw.on ((Keeps.refl NoB w).alloc (.cells #[.int .i64 0, .int .i64 0, .string ⟨#[]⟩] 60) |>.trans hk1); have C0 := hw1.c0; have C1 := hw1.c1; have C2 := hw1.c2; have FZ := hw1.fz; have zlt : w.heap.size < w1.heap.size := Nat.lt_of_lt_of_le (by simp) hk1.size; have kw : Keeps (fun b => b = g) w w1 := Keeps.of_none (((Keeps.refl NoB w).alloc (.cells #[.int .i64 0, .int .i64 0, .string ⟨#[]⟩] 60)).trans hk1))
 (try simp only [Exit.inBlock, Exit.then])
 refine bodyPost_ret (v := .tuple #[plcV .no, .string ⟨#[]⟩, .int .i64 18]) ?_ rfl ⟨rfl, ?_, ?_⟩
 ·rw [results_cell_tmp2 rfl]; (try unfold plcV); (try unfold Plc.no); (try unfold Plc.on); go_simp
 ·(repeat (first | with_reducible assumption | (with_reducible exact Keeps.refl _ _) | (with_reducible refine Keeps.drew ?_) | (with_reducible refine Keeps.alloc ?_ _) | (with_reducible refine Keeps.setCell ?_ (by first | exact Or.inl rfl | exact Or.inr (Nat.le_refl _) | exact Or.inr (by first | (simp; done) | (simp; omega))) _)))
 ·(repeat (first | with_reducible assumption | (with_reducible refine Wkr.set ?_ (by first | exact hgB | (simp; omega)) _ _) | (with_reducible refine Wkr.alloc ?_ _) | (with_reducible refine Wkr.drew ?_)))
end
section
variable {R : RD} {w0 w w' : World} {a g : Nat} {d : Nds} {room us : Int} {lk up : Int -> Int}
theorem Wkr.next {at' : Int} {n : Nat} (h : Wkr w g a at' n) (m : Nat) : Wkr (w.setCell ⟨g, 2, none⟩ (.int .i64 (m : Int))) g a at' m := by
 have h0 := cell_set (g := g) (k := 2) (u := .int .i64 (m : Int)) (j := 0) h.c0
 have h1 := cell_set (g := g) (k := 2) (u := .int .i64 (m : Int)) (j := 1) h.c1
 have h2 := cell_set (g := g) (k := 2) (u := .int .i64 (m : Int)) (j := 2) h.c2
 rw [if_neg (by decide)] at h0 h1
 rw [if_pos rfl] at h2
 exact ⟨Nat.lt_of_lt_of_le h.lt (keeps_set _ _ _).size, h0, h1, h2, fun j => (frozen_set _ _ _ _).trans (h.fz j)⟩
theorem Wkr.goto {at' : Int} {n : Nat} (h : Wkr w g a at' n) (i : Int) : Wkr (w.setCell ⟨g, 1, none⟩ (.int .i64 i)) g a i n := by
 have h0 := cell_set (g := g) (k := 1) (u := .int .i64 i) (j := 0) h.c0
 have h1 := cell_set (g := g) (k := 1) (u := .int .i64 i) (j := 1) h.c1
 have h2 := cell_set (g := g) (k := 1) (u := .int .i64 i) (j := 2) h.c2
 rw [if_neg (by decide)] at h0 h2
 rw [if_pos rfl] at h1
 exact ⟨Nat.lt_of_lt_of_le h.lt (keeps_set _ _ _).size, h0, h1, h2, fun j => (frozen_set _ _ _ _).trans (h.fz j)⟩
structure C3 (w : World) (b : Nat) (v0 v1 v2 : Value) : Prop where
 lt : b < w.heap.size
 c0 : w.cell? ⟨b, 0, none⟩ = some v0
 c1 : w.cell? ⟨b, 1, none⟩ = some v1
 c2 : w.cell? ⟨b, 2, none⟩ = some v2
 fz : ∀ j, w.frozen? ⟨b, j, none⟩ = false
theorem C3.keep {F : Nat -> Prop} {b : Nat} {v0 v1 v2 : Value} (h : C3 w b v0 v1 v2) (k : Keeps F w w') (hF : ¬ F b) : C3 w' b v0 v1 v2 :=
 ⟨Nat.lt_of_lt_of_le h.lt k.size, (k.cell (p := ⟨b, 0, none⟩) h.lt hF).trans h.c0, (k.cell (p := ⟨b, 1, none⟩) h.lt hF).trans h.c1, (k.cell (p := ⟨b, 2, none⟩) h.lt hF).trans h.c2, fun j => (k.frozen (p := ⟨b, j, none⟩) h.lt hF).trans (h.fz j)⟩
theorem C3.on {b : Nat} {v0 v1 v2 : Value} (h : C3 w b v0 v1 v2) (k : Keeps NoB w w') : C3 w' b v0 v1 v2 := h.keep k (fun h => h)
theorem C3.set {b : Nat} {v0 v1 v2 : Value} (h : C3 w b v0 v1 v2) (u0 u1 u2 : Value) : C3 (((w.setCell ⟨b, 0, none⟩ u0).setCell ⟨b, 1, none⟩ u1).setCell ⟨b, 2, none⟩ u2) b u0 u1 u2 := by
 have step : ∀ (W : World) (i : Nat) (u x0 x1 x2 : Value), C3 W b x0 x1 x2 -> C3 (W.setCell ⟨b, i, none⟩ u) b (if 0 = i then u else x0) (if 1 = i then u else x1) (if 2 = i then u else x2) := fun W i u x0 x1 x2 hW => by
  have e : ∀ j x, W.cell? ⟨b, j, none⟩ = some x -> (W.setCell ⟨b, i, none⟩ u).cell? ⟨b, j, none⟩ = some (if j = i then u else x) := fun j x hx => by
   have := cell_set (g := b) (k := i) (u := u) (j := j) hx
   rw [this]
  exact ⟨Nat.lt_of_lt_of_le hW.lt (keeps_set _ _ _).size, e 0 _ hW.c0, e 1 _ hW.c1, e 2 _ hW.c2, fun j => (frozen_set _ _ _ _).trans (hW.fz j)⟩
 have s0 := step _ 0 u0 _ _ _ h
 have s1 := step _ 1 u1 _ _ _ s0
 have s2 := step _ 2 u2 _ _ _ s1
 simpa using s2
theorem c3_new {w w1 : World} {v0 v1 v2 : Value} {T : TypeId} (k : Keeps NoB (w.alloc (.cells #[v0, v1, v2] T)) w1) : C3 w1 w.heap.size v0 v1 v2 :=
 ⟨Nat.lt_of_lt_of_le (by simp) k.size, boxed k 0 _ rfl, boxed k 1 _ rfl, boxed k 2 _ rfl, boxedz k⟩
theorem step_name (h : Rep R w0 a d room us lk up) (k : Keeps NoB w0 w) (hgw : w0.heap.size <= g) {at' : Int} {n : Nat} (hw : Wkr w g a at' n) (hI : DInv d) (hs : smallD d) (x : ByteArray) (follow : Bool) (hn : n <= 40)
 (hin : intoErr d at' = 0) (h1 : ¬ x = dotB) (h2 : ¬ x = dotsB) (h3 : ¬ 255 < x.size) : Calls Tryz.prog 47 #[.pointer (some ⟨g, 0, none⟩), .string x, .bool follow] w (StepTo w g a at' (stepR d up at' x follow n)) := by
 have HQ := Lib.hid (show stepR d up at' x follow n = if lookErr d at' x ≠ 0 ∨ follow = false then ⟨⟨lookOf d at' x, at', x⟩, ⟨#[]⟩, 0, n⟩
  else if (nd d (lookOf d at' x)).kind ≠ 3 then ⟨⟨lookOf d at' x, at', x⟩, ⟨#[]⟩, 0, n⟩
  else if 40 < n + 1 then ⟨.no, ⟨#[]⟩, 17, n + 1⟩
  else ⟨⟨lookOf d at' x, at', x⟩, dataOf d (lookOf d at' x), 0, n + 1⟩ by
  unfold stepR
  rw [if_neg (by rw [hin]; simp), if_neg h1, if_neg h2, if_neg h3])
 generalize stepR d up at' x follow n = Q at *
 have HIn := hid_into h k hw hI
 rw [hin] at HIn
 have HLo := Lib.hid (fun (w1 : World) (hk : Keeps NoB w0 w1) => look_any (h.keepN hk) at' x (nd_ents_len hs at'))
 obtain ⟨kid, hkid⟩ : ∃ kid, lookOf d at' x = kid := ⟨_, rfl⟩
 obtain ⟨le, hle⟩ : ∃ le, lookErr d at' x = le := ⟨_, rfl⟩
 rw [hkid, hle] at HQ HLo
 clear hkid hle
 obtain ⟨er, her⟩ : ∃ er : Int, er = if has d kid then 0 else 12 := ⟨_, rfl⟩
 have HIf := Lib.hid (fun (w1 : World) (hk : Keeps NoB w0 w1) => info_k (h.keepN hk) kid er her)
 have HDa := Lib.hid (fun (w1 : World) (hk : Keeps NoB w0 w1) => data_any (h.keepN hk) kid)
 clear her
 generalize dataErr d kid = de at *
 generalize dataOf d kid = dt at *
 generalize (nd d kid).kind = kd at *
 have hgB : ¬ g = w.heap.size := by have := hw.lt; omega
 have hgl := hw.lt
 have e1 : (x.toList == [46]) = false := not_dot h1
 have e2 : (x.toList == [46, 46]) = false := not_dots h2
 go_enter Tryz.func47, Tryz.ntmps47; go_upto_region 11 with (first | (go_at_call 46; refine HIn.out.mono ?_; rintro e w1 ⟨rfl, hk1⟩; have B0 := boxed hk1 0 _ rfl; have B1 := boxed hk1 1 _ rfl; have B2 := boxed hk1 2 _ rfl; have FB := boxedz hk1; have hw1 := hw.on ((Keeps.refl NoB w).alloc (.cells #[.int .i64 0, .int .i64 0, .string ⟨#[]⟩] 60) |>.trans hk1); have C0 := hw1.c0; have C1 := hw1.c1; have C2 := hw1.c2; have FZ := hw1.fz; have zlt : w.heap.size < w1.heap.size := Nat.lt_of_lt_of_le (by simp) hk1.size; have kw : Keeps (fun b => b = g) w w1 := Keeps.of_none (((Keeps.refl NoB w).alloc (.cells #[.int .i64 0, .int .i64 0, .string ⟨#[]⟩] 60)).trans hk1)))
 have kz : Keeps NoB w0 w1 := (k.trans ((Keeps.refl NoB w).alloc _)).trans hk1
 go_cut [8, 11] from 8 to 62 (fun y x wx => x = .int .i64 kid ∧ y = .int .i64 le ∧ Keeps NoB w1 wx)
 case first =>
  have kr := Keeps.refl NoB w1
  have krd := kr.drew
  have d0 := (hw1.on krd).c0
  have d1 := (hw1.on krd).c1
  go_region_held3 (fun wz => wz.cell? ⟨g, 0, none⟩ = some (.pointer (some ⟨a, 0, none⟩)) ∧ wz.cell? ⟨g, 1, none⟩ = some (.int .i64 at') ∧ Keeps NoB w1 wz) (refine ⟨?_, ?_, ?_⟩ <;> with_reducible assumption)
   (first | (go_at_call 87; refine (HLo.out _ (kz.trans (by (repeat (first | with_reducible assumption | (with_reducible exact Keeps.refl _ _) | (with_reducible refine Keeps.drew ?_) | (with_reducible refine Keeps.alloc ?_ _) | (with_reducible refine Keeps.setCell ?_ (by first | exact Or.inl rfl | exact Or.inr (Nat.le_refl _) | exact Or.inr (by first | (simp; done) | (simp; omega))) _)))))).mono ?_; rintro e w2 ⟨rfl, hk2⟩; have zky : Keeps NoB w1 w2 := Keeps.trans (by (repeat (first | with_reducible assumption | (with_reducible exact Keeps.refl _ _) | (with_reducible refine Keeps.drew ?_) | (with_reducible refine Keeps.alloc ?_ _) | (with_reducible refine Keeps.setCell ?_ (by first | exact Or.inl rfl | exact Or.inr (Nat.le_refl _) | exact Or.inr (by first | (simp; done) | (simp; omega))) _)))) hk2; have z0 := (hw1.on zky).c0; have z1 := (hw1.on zky).c1))
  all_goals (go_wp2_with fail; go_meet; exact ⟨rfl, rfl, by (repeat (first | with_reducible assumption | (with_reducible exact Keeps.refl _ _) | (with_reducible refine Keeps.drew ?_) | (with_reducible refine Keeps.alloc ?_ _) | (with_reducible refine Keeps.setCell ?_ (by first | exact Or.inl rfl | exact Or.inr (Nat.le_refl _) | exact Or.inr (by first | (simp; done) | (simp; omega))) _)))⟩)
 case rest =>
  obtain ⟨rfl, rfl, hk2⟩ := hcut
  clear B0 B1 B2 C0 C1 C2 kw HLo HIn
  replace kz := kz.trans hk2
  replace hk1 := hk1.trans hk2
  clear zlt hw1 FZ FB hk2
  generalize wc = w1 at *
  have KB := c3_new hk1
  have hw1 := hw.on ((Keeps.refl NoB w).alloc (.cells #[.int .i64 0, .int .i64 0, .string ⟨#[]⟩] 60) |>.trans hk1)
  have kw : Keeps (fun b => b = g) w w1 := Keeps.of_none (((Keeps.refl NoB w).alloc (.cells #[.int .i64 0, .int .i64 0, .string ⟨#[]⟩] 60)).trans hk1)
  have kzs := k.size
  clear hk1
  have B0 := KB.c0; have B1 := KB.c1; have B2 := KB.c2; have FB := KB.fz; have C0 := hw1.c0; have C1 := hw1.c1; have C2 := hw1.c2; have FZ := hw1.fz; have zlt := KB.lt; have zlg := hw1.lt
  go_upto_region 13 with fail
  replace KB := KB.set (.int .i64 kid) (.int .i64 at') (.string x)
  have kw2 : Keeps (fun b => b = g) w (((w1.setCell ⟨w.heap.size, 0, none⟩ (.int .i64 kid)).setCell ⟨w.heap.size, 1, none⟩ (.int .i64 at')).setCell ⟨w.heap.size, 2, none⟩ (.string x)) := by (repeat (first | with_reducible assumption | (with_reducible exact Keeps.refl _ _) | (with_reducible refine Keeps.drew ?_) | (with_reducible refine Keeps.alloc ?_ _) | (with_reducible refine Keeps.setCell ?_ (by first | exact Or.inl rfl | exact Or.inr (Nat.le_refl _) | exact Or.inr (by first | (simp; done) | (simp; omega))) _)))
  have kz2 : Keeps NoB w0 (((w1.setCell ⟨w.heap.size, 0, none⟩ (.int .i64 kid)).setCell ⟨w.heap.size, 1, none⟩ (.int .i64 at')).setCell ⟨w.heap.size, 2, none⟩ (.string x)) := by (repeat (first | with_reducible assumption | (with_reducible exact Keeps.refl _ _) | (with_reducible refine Keeps.drew ?_) | (with_reducible refine Keeps.alloc ?_ _) | (with_reducible refine Keeps.setCell ?_ (by first | exact Or.inl rfl | exact Or.inr (Nat.le_refl _) | exact Or.inr (by first | (simp; done) | (simp; omega))) _)))
  have hw2 : Wkr (((w1.setCell ⟨w.heap.size, 0, none⟩ (.int .i64 kid)).setCell ⟨w.heap.size, 1, none⟩ (.int .i64 at')).setCell ⟨w.heap.size, 2, none⟩ (.string x)) g a at' n := by (repeat (first | with_reducible assumption | (with_reducible refine Wkr.set ?_ (by first | exact hgB | (simp; omega)) _ _) | (with_reducible refine Wkr.alloc ?_ _) | (with_reducible refine Wkr.drew ?_)))
  generalize (((w1.setCell ⟨w.heap.size, 0, none⟩ (.int .i64 kid)).setCell ⟨w.heap.size, 1, none⟩ (.int .i64 at')).setCell ⟨w.heap.size, 2, none⟩ (.string x)) = w2 at *
  clear B0 B1 B2 FB C0 C1 C2 FZ zlt zlg
  clear kw kz hw1
  have hw1 := hw2
  have B0 := KB.c0; have B1 := KB.c1; have B2 := KB.c2; have FB := KB.fz; have C0 := hw1.c0; have C1 := hw1.c1; have C2 := hw1.c2; have FZ := hw1.fz; have zlt := KB.lt; have zlg := hw1.lt
  by_cases hA : le ≠ 0 ∨ follow = false
  ·have HQ1 := HQ.out
   rw [if_pos hA] at HQ1
   have HQ2 := Lib.hid HQ1
   clear HQ HQ1
   have hA' : (le != 0) = true ∨ ((le != 0) = false ∧ follow = false) := by
    by_cases he : le = 0
    ·exact .inr ⟨by simp [he], hA.resolve_left (fun h => h he)⟩
    ·exact .inl (by simpa using he)
   rcases hA' with hA' | ⟨hA', rfl⟩
   all_goals
    go_wp2_with fail
    (try simp only [Exit.inBlock, Exit.then])
    refine bodyPost_ret (v := .tuple #[plcV ⟨kid, at', x⟩, .string ⟨#[]⟩, .int .i64 0]) ?_ rfl ?_
    ·rw [results_cell_tmp2 rfl]; (try unfold plcV); (try unfold Plc.no); (try unfold Plc.on); go_simp
    ·rw [HQ2.out]
     refine ⟨rfl, ?_, ?_⟩
     ·(repeat (first | with_reducible assumption | (with_reducible exact Keeps.refl _ _) | (with_reducible refine Keeps.drew ?_) | (with_reducible refine Keeps.alloc ?_ _) | (with_reducible refine Keeps.setCell ?_ (by first | exact Or.inl rfl | exact Or.inr (Nat.le_refl _) | exact Or.inr (by first | (simp; done) | (simp; omega))) _)))
     ·(repeat (first | with_reducible assumption | (with_reducible refine Wkr.set ?_ (by first | exact hgB | (simp; omega)) _ _) | (with_reducible refine Wkr.alloc ?_ _) | (with_reducible refine Wkr.drew ?_)))
  ·have HQ1 := HQ.out
   rw [if_neg hA] at HQ1
   have hl0 : le = 0 := Classical.byContradiction fun hh => hA (.inl hh)
   have hf1 : follow = true := by cases follow with
    | true => rfl
    | false => exact absurd (.inr rfl) hA
   clear hA HQ
   subst hl0 hf1
   have HQ := Lib.hid HQ1
   clear HQ1
   go_upto_region 16 with (first | (go_at_call 37; go_loud (refine (HIf.out _ kz2).mono ?_); rintro e w3 ⟨m, l, hh, z, hm, rfl, hk2⟩; (replace KB := KB.on hk2); (have hw3 := hw2.on hk2); (have kz3 := kz2.trans hk2); (have kw3 : Keeps (fun b => b = g) w w3 := kw2.trans hk2.of_none); clear B0 B1 B2 FB C0 C1 C2 FZ zlt zlg; clear hw1; have hw1 := hw3; have B0 := KB.c0; have B1 := KB.c1; have B2 := KB.c2; have FB := KB.fz; have C0 := hw1.c0; have C1 := hw1.c1; have C2 := hw1.c2; have FZ := hw1.fz; have zlt := KB.lt; have zlg := hw1.lt))
   clear hw1 HIf hw2 kz2 kw2
   have k4 : Keeps NoB w3 (w3.alloc (.cells #[.int .i64 kd, .int .i64 m, .int .i64 l, .int .i64 hh, .int .i64 z] 42)) := (Keeps.refl _ _).alloc _
   have I0 := boxed (Keeps.refl NoB (w3.alloc (.cells #[.int .i64 kd, .int .i64 m, .int .i64 l, .int .i64 hh, .int .i64 z] 42))) 0 _ rfl
   generalize w3.alloc (.cells #[.int .i64 kd, .int .i64 m, .int .i64 l, .int .i64 hh, .int .i64 z] 42) = w4 at *
   replace KB := KB.on k4
   have hw1 := hw3.on k4
   have kz4 := kz3.trans k4
   have kw4 : Keeps (fun b => b = g) w w4 := kw3.trans k4.of_none
   clear B0 B1 B2 FB C0 C1 C2 FZ zlt zlg
   have B0 := KB.c0; have B1 := KB.c1; have B2 := KB.c2; have FB := KB.fz; have C0 := hw1.c0; have C1 := hw1.c1; have C2 := hw1.c2; have FZ := hw1.fz; have zlt := KB.lt; have zlg := hw1.lt
   have hBg : ¬ w.heap.size = g := fun e => hgB e.symm
   clear hw3 kz3 kw3 k4
   by_cases h3 : kd = 3
   ·have HQ1 := HQ.out
    rw [if_neg (by simp [h3])] at HQ1
    clear HQ
    have HQ := Lib.hid HQ1
    clear HQ1
    subst h3
    go_upto_region 19 with fail
    have e1 : ((n + 1 : Nat) : Int) = (n : Int) + 1 := by omega
    rw [<- e1]
    have hg0 : w0.heap.size <= g := hgw
    have kz5 : Keeps NoB w0 (w4.setCell ⟨g, 2, none⟩ (.int .i64 ((n + 1 : Nat) : Int))) := by (repeat (first | with_reducible assumption | (with_reducible exact Keeps.refl _ _) | (with_reducible refine Keeps.drew ?_) | (with_reducible refine Keeps.alloc ?_ _) | (with_reducible refine Keeps.setCell ?_ (by first | exact Or.inl rfl | exact Or.inr (Nat.le_refl _) | exact Or.inr (by first | (simp; done) | (simp; omega))) _)))
    have kw5 : Keeps (fun b => b = g) w (w4.setCell ⟨g, 2, none⟩ (.int .i64 ((n + 1 : Nat) : Int))) := by (repeat (first | with_reducible assumption | (with_reducible exact Keeps.refl _ _) | (with_reducible refine Keeps.drew ?_) | (with_reducible refine Keeps.alloc ?_ _) | (with_reducible refine Keeps.setCell ?_ (by first | exact Or.inl rfl | exact Or.inr (Nat.le_refl _) | exact Or.inr (by first | (simp; done) | (simp; omega))) _)))
    replace KB := KB.keep (keeps_set w4 ⟨g, 2, none⟩ (.int .i64 ((n + 1 : Nat) : Int))) hBg
    replace hw1 := hw1.next (n + 1)
    clear B0 B1 B2 FB C0 C1 C2 FZ zlt zlg
    clear I0 kw4 kz4
    generalize w4.setCell ⟨g, 2, none⟩ (.int .i64 ((n + 1 : Nat) : Int)) = w5 at *
    have B0 := KB.c0; have B1 := KB.c1; have B2 := KB.c2; have FB := KB.fz; have C0 := hw1.c0; have C1 := hw1.c1; have C2 := hw1.c2; have FZ := hw1.fz; have zlt := KB.lt; have zlg := hw1.lt
    by_cases h40 : 40 < n + 1
    ·have HQ1 := HQ.out
     rw [if_pos h40] at HQ1
     clear HQ
     have HQ2 := Lib.hid HQ1
     clear HQ1
     obtain rfl : n = 40 := by omega
     go_wp2_with fail
     (try simp only [Exit.inBlock, Exit.then])
     refine bodyPost_ret (v := .tuple #[plcV .no, .string ⟨#[]⟩, .int .i64 17]) ?_ rfl ?_
     ·rw [results_cell_tmp2 rfl]; (try unfold plcV); (try unfold Plc.no); (try unfold Plc.on); go_simp
     ·rw [HQ2.out]
      refine ⟨rfl, ?_, ?_⟩
      ·(repeat (first | with_reducible assumption | (with_reducible exact Keeps.refl _ _) | (with_reducible refine Keeps.drew ?_) | (with_reducible refine Keeps.alloc ?_ _) | (with_reducible refine Keeps.setCell ?_ (by first | exact Or.inl rfl | exact Or.inr (Nat.le_refl _) | exact Or.inr (by first | (simp; done) | (simp; omega))) _)))
      ·(repeat (first | with_reducible assumption | (with_reducible refine Wkr.set ?_ (by first | exact hgB | (simp; omega)) _ _) | (with_reducible refine Wkr.alloc ?_ _) | (with_reducible refine Wkr.drew ?_)))
    ·have HQ1 := HQ.out
     rw [if_neg h40] at HQ1
     clear HQ
     have HQ2 := Lib.hid HQ1
     clear HQ1
     go_wp2_with (first | (go_at_call 14; refine (HDa.out _ kz5).mono ?_; rintro e w6 ⟨rfl, rfl⟩))
     (try simp only [Exit.inBlock, Exit.then])
     refine bodyPost_ret (v := .tuple #[plcV ⟨kid, at', x⟩, .string dt, .int .i64 0]) ?_ rfl ?_
     ·rw [results_cell_tmp2 rfl]; (try unfold plcV); (try unfold Plc.no); (try unfold Plc.on); go_simp
     ·rw [HQ2.out]
      refine ⟨rfl, ?_, ?_⟩
      ·(repeat (first | with_reducible assumption | (with_reducible exact Keeps.refl _ _) | (with_reducible refine Keeps.drew ?_) | (with_reducible refine Keeps.alloc ?_ _) | (with_reducible refine Keeps.setCell ?_ (by first | exact Or.inl rfl | exact Or.inr (Nat.le_refl _) | exact Or.inr (by first | (simp; done) | (simp; omega))) _)))
      ·(repeat (first | with_reducible assumption | (with_reducible refine Wkr.set ?_ (by first | exact hgB | (simp; omega)) _ _) | (with_reducible refine Wkr.alloc ?_ _) | (with_reducible refine Wkr.drew ?_)))
   ·have HQ1 := HQ.out
    rw [if_pos h3] at HQ1
    have HQ2 := Lib.hid HQ1
    clear HQ HQ1
    have h3' : (kd != 3) = true := by simpa using h3
    go_wp2_with fail
    (try simp only [Exit.inBlock, Exit.then])
    refine bodyPost_ret (v := .tuple #[plcV ⟨kid, at', x⟩, .string ⟨#[]⟩, .int .i64 0]) ?_ rfl ?_
    ·rw [results_cell_tmp2 rfl]; (try unfold plcV); (try unfold Plc.no); (try unfold Plc.on); go_simp
    ·rw [HQ2.out]
     refine ⟨rfl, ?_, ?_⟩
     ·(repeat (first | with_reducible assumption | (with_reducible exact Keeps.refl _ _) | (with_reducible refine Keeps.drew ?_) | (with_reducible refine Keeps.alloc ?_ _) | (with_reducible refine Keeps.setCell ?_ (by first | exact Or.inl rfl | exact Or.inr (Nat.le_refl _) | exact Or.inr (by first | (simp; done) | (simp; omega))) _)))
     ·(repeat (first | with_reducible assumption | (with_reducible refine Wkr.set ?_ (by first | exact hgB | (simp; omega)) _ _) | (with_reducible refine Wkr.alloc ?_ _) | (with_reducible refine Wkr.drew ?_)))
end
section
variable {R : RD} {w0 w w' : World} {a g : Nat} {d : Nds} {room us : Int} {lk up : Int -> Int}
theorem step_any (h : Rep R w0 a d room us lk up) (k : Keeps NoB w0 w) (hgw : w0.heap.size <= g) {at' : Int} {n : Nat} (hw : Wkr w g a at' n) (hI : DInv d) (hs : smallD d) (x : ByteArray) (follow : Bool) (hn : n <= 40) :
 Calls Tryz.prog 47 #[.pointer (some ⟨g, 0, none⟩), .string x, .bool follow] w (StepTo w g a at' (stepR d up at' x follow n)) := by
 by_cases h0 : intoErr d at' ≠ 0
 ·have : stepR d up at' x follow n = ⟨.no, ⟨#[]⟩, intoErr d at', n⟩ := by unfold stepR; rw [if_pos h0]
  rw [this]
  exact step_into h k hw hI x follow h0
 ·have hin : intoErr d at' = 0 := by simpa using h0
  by_cases h1 : x = dotB
  ·have : stepR d up at' x follow n = ⟨.on at', ⟨#[]⟩, 0, n⟩ := by unfold stepR; rw [if_neg h0, if_pos h1]
   rw [this, h1]
   exact step_dot h k hw hI follow hin
  by_cases h2 : x = dotsB
  ·have : stepR d up at' x follow n = ⟨.on (up at'), ⟨#[]⟩, 0, n⟩ := by unfold stepR; rw [if_neg h0, if_neg h1, if_pos h2]
   rw [this, h2]
   refine step_up h k hw hI follow hin ?_
   unfold intoErr at hin
   exact Classical.byContradiction fun hf => by rw [if_pos hf] at hin; exact hf hin
  by_cases h3 : 255 < x.size
  ·have : stepR d up at' x follow n = ⟨.no, ⟨#[]⟩, 18, n⟩ := by unfold stepR; rw [if_neg h0, if_neg h1, if_neg h2, if_pos h3]
   rw [this]
   exact step_long h k hw hI x follow hin h1 h2 h3
  ·exact step_name h k hgw hw hI hs x follow hn hin h1 h2 h3
theorem rest_any (S : Nat -> Prop) (w : World) (p : Option Addr) (c : Nat) (l : List ByteArray) (h : SlAt encStr S w p c l) (t : ByteArray) (slash : Bool)
 (hl : ∀ x ∈ l, x.size <= 4095) (hn : l.length <= 4096) (ht : t.size <= 2147483648) :
 Calls Tryz.prog 48 #[.string t, .slice p l.length c, .bool slash] w fun e w' => e = .returned (.string (restB t l slash)) ∧ w' = w := by
 have hcap := h.cap
 have hmax := h.max
 unfold maxLen at hmax
 have HL := Lib.hid hl
 clear hl
 have HR := Lib.hid (show restB t l slash = if slash && !endS (l.foldl joinB t) then l.foldl joinB t ++ slashB else l.foldl joinB t from rfl)
 have HF := Lib.hid (fun k : Nat => fold_size (l.take k) 4095 (fun x hx => HL.out x (List.mem_of_mem_take hx)) t)
 generalize restB t l slash = Q at *
 go_enter Tryz.func48, Tryz.ntmps48
 go_wp2
 go_loop [7, 13] (fun s i => ∃ k : Nat, k <= l.length ∧ i = .int .i64 k ∧ s = .string ((l.take k).foldl joinB t)) (fun _ i => l.length - (intOf i).toNat)
 case atStart => exact ⟨0, Nat.zero_le _, rfl, rfl⟩
 case round =>
  obtain ⟨k, hk, rfl, rfl⟩ := hrel
  have hf := HF.out k
  rw [List.length_take, Nat.min_eq_left hk] at hf
  by_cases hlt : k < l.length
  ·obtain ⟨x, hx⟩ : ∃ x, l[k]? = some x := ⟨_, List.getElem?_eq_getElem hlt⟩
   obtain ⟨gb, off, rfl, hS, hg, c0⟩ := h.str hx
   have hxs := HL.out x (List.mem_of_getElem? hx)
   have HT := Lib.hid (show (l.take (k + 1)).foldl joinB t = joinB ((l.take k).foldl joinB t) x by rw [List.take_add_one, hx]; simp)
   clear hx
   generalize (l.take k).foldl joinB t = s at *
   go_wp2_with (go_at_call 71; refine (join_any _ _ _ (by omega) (by omega)).mono ?_; rintro e w' ⟨rfl, rfl⟩)
   go_round
   case rel => exact ⟨k + 1, by omega, by go_num, by rw [HT.out]⟩
   case measure => simp [intOf]; omega
  ·obtain rfl : k = l.length := by omega
   rw [List.take_length] at hf ⊢
   generalize l.foldl joinB t = s at *
   cases slash with
   | false =>
     go_wp2_with fail
     go_ret
     refine ⟨?_, rfl⟩
     rw [HR.out]
     simp
   | true =>
     cases he : endS s with
     | false =>
       rw [he] at HR
       have HE := Lib.hid (hs1 s w (by omega))
       rw [he] at HE
       go_wp2_with (go_at_call 45; refine HE.out.mono ?_; rintro e w' ⟨rfl, rfl⟩)
       go_ret
       refine ⟨?_, rfl⟩
       rw [HR.out]
       simp
     | true =>
       rw [he] at HR
       have HE := Lib.hid (hs1 s w (by omega))
       rw [he] at HE
       go_wp2_with (go_at_call 45; refine HE.out.mono ?_; rintro e w' ⟨rfl, rfl⟩)
       go_ret
       refine ⟨?_, rfl⟩
       rw [HR.out]
       simp
theorem end_any (h : Rep R w a d room us lk up) (p : Plc) (slash : Bool) :
 Calls Tryz.prog 49 #[.pointer (some ⟨a, 0, none⟩), plcV p, .bool slash] w fun e w' => e = .returned (.tuple #[plcV (endR d p slash).1, .int .i64 (endR d p slash).2]) ∧ Keeps NoB w w' := by
 obtain ⟨er, her⟩ : ∃ er : Int, er = if has d p.node then 0 else 12 := ⟨_, rfl⟩
 have HIf := Lib.hid (fun (w1 : World) (hk : Keeps NoB w w1) => info_k (h.keepN hk) p.node er her)
 clear her
 obtain ⟨node, dir, name⟩ := p
 have HQ := Lib.hid (show endR d ⟨node, dir, name⟩ slash = if slash = false ∨ node = 0 then (⟨node, dir, name⟩, 0) else if (nd d node).kind ≠ 2 then (.no, 14) else (⟨node, dir, name⟩, 0) from rfl)
 generalize endR d ⟨node, dir, name⟩ slash = Q at *
 unfold plcV
 simp only at HIf ⊢
 generalize (nd d node).kind = kd at *
 go_enter Tryz.func49, Tryz.ntmps49
 cases slash with
 | false =>
   go_wp2_with fail
   (try simp only [Exit.inBlock, Exit.then])
   refine bodyPost_ret (v := .tuple #[plcV ⟨node, dir, name⟩, .int .i64 0]) ?_ rfl ?_
   ·rw [results_cell_tmp rfl]; unfold plcV; go_simp
   ·refine ⟨by rw [HQ.out]; simp [plcV], ?_⟩
    (repeat (first | with_reducible assumption | (with_reducible exact Keeps.refl _ _) | (with_reducible refine Keeps.drew ?_) | (with_reducible refine Keeps.alloc ?_ _) | (with_reducible refine Keeps.setCell ?_ (by first | exact Or.inl rfl | exact Or.inr (Nat.le_refl _) | exact Or.inr (by first | (simp; done) | (simp; omega))) _)))
 | true =>
   by_cases h0 : node = 0
   ·subst h0
    go_wp2_with fail
    (try simp only [Exit.inBlock, Exit.then])
    refine bodyPost_ret (v := .tuple #[plcV ⟨0, dir, name⟩, .int .i64 0]) ?_ rfl ?_
    ·rw [results_cell_tmp rfl]; unfold plcV; go_simp
    ·refine ⟨by rw [HQ.out]; simp [plcV], ?_⟩
     (repeat (first | with_reducible assumption | (with_reducible exact Keeps.refl _ _) | (with_reducible refine Keeps.drew ?_) | (with_reducible refine Keeps.alloc ?_ _) | (with_reducible refine Keeps.setCell ?_ (by first | exact Or.inl rfl | exact Or.inr (Nat.le_refl _) | exact Or.inr (by first | (simp; done) | (simp; omega))) _)))
   ·have h0' : (node == 0) = false := by simpa using h0
    have k1 : Keeps NoB w (w.alloc (.cells #[.int .i64 node, .int .i64 dir, .string name] 60)) := (Keeps.refl _ _).alloc _
    have KA := c3_new (Keeps.refl NoB (w.alloc (.cells #[.int .i64 node, .int .i64 dir, .string name] 60)))
    have e1 : (w.alloc (.cells #[.int .i64 node, .int .i64 dir, .string name] 60)).heap.size = w.heap.size + 1 := by simp
    go_upto_region 3 with fail
    generalize w.alloc (.cells #[.int .i64 node, .int .i64 dir, .string name] 60) = w1 at *
    have k2 : Keeps NoB w1 (w1.alloc (.cells #[.int .i64 0, .int .i64 0, .string ⟨#[]⟩] 60)) := (Keeps.refl _ _).alloc _
    have KB := c3_new (Keeps.refl NoB (w1.alloc (.cells #[.int .i64 0, .int .i64 0, .string ⟨#[]⟩] 60)))
    rw [e1] at KB
    replace KA := KA.on k2
    replace k1 := k1.trans k2
    try simp only [e1]
    generalize w1.alloc (.cells #[.int .i64 0, .int .i64 0, .string ⟨#[]⟩] 60) = w2 at *
    clear k2 e1
    have A0 := KA.c0
    have A1 := KA.c1
    have A2 := KA.c2
    have AZ := KA.fz
    have B0 := KB.c0
    have B1 := KB.c1
    have B2 := KB.c2
    have FB := KB.fz
    have zlt := KB.lt
    have zla := KA.lt
    by_cases h2 : kd = 2
    ·subst h2
     go_wp2_with (first | (go_at_call 37; go_loud (refine (HIf.out _ k1).mono ?_); rintro e w3 ⟨m, l, hh, z, hm, rfl, hk3⟩; (replace KA := KA.on hk3); (replace KB := KB.on hk3); (replace k1 := k1.trans hk3); clear A0 A1 A2 AZ B0 B1 B2 FB zlt zla; have A0 := KA.c0; have A1 := KA.c1; have A2 := KA.c2; have AZ := KA.fz; have B0 := KB.c0; have B1 := KB.c1; have B2 := KB.c2; have FB := KB.fz; have zlt := KB.lt; have zla := KA.lt))
     (try simp only [Exit.inBlock, Exit.then])
     refine bodyPost_ret (v := .tuple #[plcV ⟨node, dir, name⟩, .int .i64 0]) ?_ rfl ?_
     ·rw [results_cell_tmp rfl]; unfold plcV; go_simp
     ·refine ⟨by rw [HQ.out]; simp [plcV, h0], ?_⟩
      (repeat (first | with_reducible assumption | (with_reducible exact Keeps.refl _ _) | (with_reducible refine Keeps.drew ?_) | (with_reducible refine Keeps.alloc ?_ _) | (with_reducible refine Keeps.setCell ?_ (by first | exact Or.inl rfl | exact Or.inr (Nat.le_refl _) | exact Or.inr (by first | (simp; done) | (simp; omega))) _)))
    ·have h2' : (kd != 2) = true := by simpa using h2
     go_wp2_with (first | (go_at_call 37; go_loud (refine (HIf.out _ k1).mono ?_); rintro e w3 ⟨m, l, hh, z, hm, rfl, hk3⟩; (replace KA := KA.on hk3); (replace KB := KB.on hk3); (replace k1 := k1.trans hk3); clear A0 A1 A2 AZ B0 B1 B2 FB zlt zla; have A0 := KA.c0; have A1 := KA.c1; have A2 := KA.c2; have AZ := KA.fz; have B0 := KB.c0; have B1 := KB.c1; have B2 := KB.c2; have FB := KB.fz; have zlt := KB.lt; have zla := KA.lt))
     (try simp only [Exit.inBlock, Exit.then])
     refine bodyPost_ret (v := .tuple #[plcV .no, .int .i64 14]) ?_ rfl ?_
     ·rw [results_cell_tmp rfl]; unfold plcV Plc.no; go_simp
     ·refine ⟨by rw [HQ.out]; simp [plcV, h0, h2, Plc.no], ?_⟩
      (repeat (first | with_reducible assumption | (with_reducible exact Keeps.refl _ _) | (with_reducible refine Keeps.drew ?_) | (with_reducible refine Keeps.alloc ?_ _) | (with_reducible refine Keeps.setCell ?_ (by first | exact Or.inl rfl | exact Or.inr (Nat.le_refl _) | exact Or.inr (by first | (simp; done) | (simp; omega))) _)))
end
end Go.Proofs.YtimidmogcbapnaaGreatDoor
