/-
  Contracts of the reference for layer 4: New, Make.
-/
import Derived.Test.YtnaenhekjdmlaaaGreatDoorG03
import Derived.Test.YtnaenhekjdmlaaaGreatDoorG04
import Derived.Deep.RegionHeld3

set_option linter.unusedSimpArgs false
set_option linter.unusedVariables false
namespace Go.Proofs.YtnaenhekjdmlaaaGreatDoor
open Go.RowKit
set_option maxRecDepth 100000
set_option maxHeartbeats 2000000
theorem results_cell_tmp2 {fn : Func} {p u t : Tmp} {ty : TypeId} (h : fn.results = #[.cell p ty, .tmp u, .tmp t]) (tmps : Array Value) (P : Program) (w : World) :
 (results fn tmps).run P w =
   ((asAddr (tmps.getD p undef)).run P w).andThen fun a w₁ => ((loadVar ty a).run P w₁).andThen fun v w₂ => .ok (.tuple #[v, tmps.getD u undef, tmps.getD t undef]) w₂ := by
 simp only [results, h]
 simp [Sem.run_bind, Result.andThen]
section
variable {S : Nat -> Prop} {w : World} {p : Option Addr} {c : Nat} {d : Nds} {room : Int}
end
end Go.Proofs.YtnaenhekjdmlaaaGreatDoor
set_option maxRecDepth 100000
set_option maxHeartbeats 2000000
namespace Go.Proofs.YtnaenhekjdmlaaaGreatDoor
open Go Go.RowKit
section
variable {R : RD} {w0 w w' : World} {a g : Nat} {d : Nds} {room us : Int} {lk up : Int -> Int}
theorem Wkr.set {at' : Int} {n : Nat} (h : Wkr w g a at' n) {B : Nat} (hB : ¬ g = B) (j : Nat) (v : Value) : Wkr (w.setCell ⟨B, j, none⟩ v) g a at' n := h.keep (keeps_set _ _ _) hB
theorem Wkr.alloc {at' : Int} {n : Nat} (h : Wkr w g a at' n) (o : Obj) : Wkr (w.alloc o) g a at' n := h.on ((Keeps.refl NoB w).alloc o)
theorem Wkr.drew {at' : Int} {n : Nat} (h : Wkr w g a at' n) : Wkr w.drew g a at' n := h.on (Keeps.refl NoB w).drew
def StepTo (w : World) (g a : Nat) (at' : Int) (q : StepR) (e : Ending) (w' : World) : Prop :=
 e = .returned (.tuple #[plcV q.p, .string q.t, .int .i64 q.e]) ∧ Keeps (fun b => b = g) w w' ∧ Wkr w' g a at' q.n
theorem hid_into (h : Rep R w0 a d room us lk up) (k : Keeps NoB w0 w) {at' : Int} {n : Nat} (hw : Wkr w g a at' n) (hI : DInv d) :
 Hid (Calls Tryz.prog 96 #[.pointer (some ⟨g, 0, none⟩)] (w.alloc (.cells #[.int .i64 0, .int .i64 0, .string ⟨#[]⟩] 90)) fun e w' => e = .returned (.int .i64 (intoErr d at')) ∧ Keeps NoB (w.alloc (.cells #[.int .i64 0, .int .i64 0, .string ⟨#[]⟩] 90)) w') := by
 have kal : Keeps NoB w (w.alloc (.cells #[.int .i64 0, .int .i64 0, .string ⟨#[]⟩] 90)) := (Keeps.refl _ _).alloc _
 exact Lib.hid (into_any h (k.trans kal) (hw.on kal) hI)
theorem not_dot {x : ByteArray} (h : ¬ x = dotB) : (x.toList == [46]) = false := by
 have := toList_eq x dotB
 rw [show dotB.toList = [46] by rw [Lib.toList_data]] at this
 rw [this]; simpa using h
theorem not_dots {x : ByteArray} (h : ¬ x = dotsB) : (x.toList == [46, 46]) = false := by
 have := toList_eq x dotsB
 rw [show dotsB.toList = [46, 46] by rw [Lib.toList_data]] at this
 rw [this]; simpa using h
theorem step_into (h : Rep R w0 a d room us lk up) (k : Keeps NoB w0 w) {at' : Int} {n : Nat} (hw : Wkr w g a at' n) (hI : DInv d) (x : ByteArray) (follow : Bool)
 (hin : intoErr d at' ≠ 0) : Calls Tryz.prog 97 #[.pointer (some ⟨g, 0, none⟩), .string x, .bool follow] w (StepTo w g a at' ⟨.no, ⟨#[]⟩, intoErr d at', n⟩) := by
 have HIn := hid_into h k hw hI
 have hgB : ¬ g = w.heap.size := by have := hw.lt; omega
 have hne : (intoErr d at' != 0) = true := by simpa using hin
 go_enter Tryz.func97, Tryz.ntmps97
 go_wp2_with (go_at_call 96; refine HIn.out.mono ?_; rintro e w1 ⟨rfl, hk1⟩; have B0 := boxed hk1 0 _ rfl; have B1 := boxed hk1 1 _ rfl; have B2 := boxed hk1 2 _ rfl; have FB := boxedz hk1; have hw1 := hw.on ((Keeps.refl NoB w).alloc (.cells #[.int .i64 0, .int .i64 0, .string ⟨#[]⟩] 90) |>.trans hk1); have C0 := hw1.c0; have C1 := hw1.c1; have C2 := hw1.c2; have FZ := hw1.fz; have zlt : w.heap.size < w1.heap.size := Nat.lt_of_lt_of_le (by simp) hk1.size; have kw : Keeps (fun b => b = g) w w1 := Keeps.of_none (((Keeps.refl NoB w).alloc (.cells #[.int .i64 0, .int .i64 0, .string ⟨#[]⟩] 90)).trans hk1))
 (try simp only [Exit.inBlock, Exit.then])
 refine bodyPost_ret (v := .tuple #[plcV .no, .string ⟨#[]⟩, .int .i64 (intoErr d at')]) ?_ rfl ⟨rfl, ?_, ?_⟩
 ·rw [results_cell_tmp2 rfl]; (try unfold plcV); (try unfold Plc.no); (try unfold Plc.on); go_simp
 ·(repeat (first | with_reducible assumption | (with_reducible exact Keeps.refl _ _) | (with_reducible refine Keeps.drew ?_) | (with_reducible refine Keeps.alloc ?_ _) | (with_reducible refine Keeps.setCell ?_ (by first | exact Or.inl rfl | exact Or.inr (Nat.le_refl _) | exact Or.inr (by first | (simp; done) | (simp; omega))) _)))
 ·(repeat (first | with_reducible assumption | (with_reducible refine Wkr.set ?_ (by first | exact hgB | (simp; omega)) _ _) | (with_reducible refine Wkr.alloc ?_ _) | (with_reducible refine Wkr.drew ?_)))
theorem step_dot (h : Rep R w0 a d room us lk up) (k : Keeps NoB w0 w) {at' : Int} {n : Nat} (hw : Wkr w g a at' n) (hI : DInv d) (follow : Bool)
 (hin : intoErr d at' = 0) : Calls Tryz.prog 97 #[.pointer (some ⟨g, 0, none⟩), .string dotB, .bool follow] w (StepTo w g a at' ⟨.on at', ⟨#[]⟩, 0, n⟩) := by
 have HIn := hid_into h k hw hI
 rw [hin] at HIn
 have hgB : ¬ g = w.heap.size := by have := hw.lt; omega
 go_enter Tryz.func97, Tryz.ntmps97
 go_wp2_with (go_at_call 96; refine HIn.out.mono ?_; rintro e w1 ⟨rfl, hk1⟩; have B0 := boxed hk1 0 _ rfl; have B1 := boxed hk1 1 _ rfl; have B2 := boxed hk1 2 _ rfl; have FB := boxedz hk1; have hw1 := hw.on ((Keeps.refl NoB w).alloc (.cells #[.int .i64 0, .int .i64 0, .string ⟨#[]⟩] 90) |>.trans hk1); have C0 := hw1.c0; have C1 := hw1.c1; have C2 := hw1.c2; have FZ := hw1.fz; have zlt : w.heap.size < w1.heap.size := Nat.lt_of_lt_of_le (by simp) hk1.size; have kw : Keeps (fun b => b = g) w w1 := Keeps.of_none (((Keeps.refl NoB w).alloc (.cells #[.int .i64 0, .int .i64 0, .string ⟨#[]⟩] 90)).trans hk1))
 (try simp only [Exit.inBlock, Exit.then])
 refine bodyPost_ret (v := .tuple #[plcV (.on at'), .string ⟨#[]⟩, .int .i64 0]) ?_ rfl ⟨rfl, ?_, ?_⟩
 ·rw [results_cell_tmp2 rfl]; (try unfold plcV); (try unfold Plc.no); (try unfold Plc.on); go_simp
 ·(repeat (first | with_reducible assumption | (with_reducible exact Keeps.refl _ _) | (with_reducible refine Keeps.drew ?_) | (with_reducible refine Keeps.alloc ?_ _) | (with_reducible refine Keeps.setCell ?_ (by first | exact Or.inl rfl | exact Or.inr (Nat.le_refl _) | exact Or.inr (by first | (simp; done) | (simp; omega))) _)))
 ·(repeat (first | with_reducible assumption | (with_reducible refine Wkr.set ?_ (by first | exact hgB | (simp; omega)) _ _) | (with_reducible refine Wkr.alloc ?_ _) | (with_reducible refine Wkr.drew ?_)))
theorem step_up (h : Rep R w0 a d room us lk up) (k : Keeps NoB w0 w) {at' : Int} {n : Nat} (hw : Wkr w g a at' n) (hI : DInv d) (follow : Bool)
 (hin : intoErr d at' = 0) (hf : folderErr d at' = 0) : Calls Tryz.prog 97 #[.pointer (some ⟨g, 0, none⟩), .string dotsB, .bool follow] w (StepTo w g a at' ⟨.on (up at'), ⟨#[]⟩, 0, n⟩) := by
 have HIn := hid_into h k hw hI
 rw [hin] at HIn
 have HUp := Lib.hid (fun (w1 : World) (hk : Keeps NoB w0 w1) => up_any (h.keepN hk) at')
 rw [hf, if_pos rfl] at HUp
 have hgB : ¬ g = w.heap.size := by have := hw.lt; omega
 go_enter Tryz.func97, Tryz.ntmps97
 go_upto_region 7 with (first | (go_at_call 96; refine HIn.out.mono ?_; rintro e w1 ⟨rfl, hk1⟩; have B0 := boxed hk1 0 _ rfl; have B1 := boxed hk1 1 _ rfl; have B2 := boxed hk1 2 _ rfl; have FB := boxedz hk1; have hw1 := hw.on ((Keeps.refl NoB w).alloc (.cells #[.int .i64 0, .int .i64 0, .string ⟨#[]⟩] 90) |>.trans hk1); have C0 := hw1.c0; have C1 := hw1.c1; have C2 := hw1.c2; have FZ := hw1.fz; have zlt : w.heap.size < w1.heap.size := Nat.lt_of_lt_of_le (by simp) hk1.size; have kw : Keeps (fun b => b = g) w w1 := Keeps.of_none (((Keeps.refl NoB w).alloc (.cells #[.int .i64 0, .int .i64 0, .string ⟨#[]⟩] 90)).trans hk1)))
 have kz : Keeps NoB w0 w1 := (k.trans ((Keeps.refl NoB w).alloc _)).trans hk1
 go_cut [9] from 9 to 42 (fun x wx => x = .int .i64 (up at') ∧ Keeps NoB w1 wx)
 case first =>
  have kr := Keeps.refl NoB w1
  have krd := kr.drew
  have d0 := (hw1.on krd).c0
  have d1 := (hw1.on krd).c1
  go_region_held3 (fun wz => wz.cell? ⟨g, 0, none⟩ = some (.pointer (some ⟨a, 0, none⟩)) ∧ wz.cell? ⟨g, 1, none⟩ = some (.int .i64 at') ∧ Keeps NoB w1 wz) (refine ⟨?_, ?_, ?_⟩ <;> with_reducible assumption)
   (first | (go_at_call 159; refine (HUp.out _ (kz.trans (by (repeat (first | with_reducible assumption | (with_reducible exact Keeps.refl _ _) | (with_reducible refine Keeps.drew ?_) | (with_reducible refine Keeps.alloc ?_ _) | (with_reducible refine Keeps.setCell ?_ (by first | exact Or.inl rfl | exact Or.inr (Nat.le_refl _) | exact Or.inr (by first | (simp; done) | (simp; omega))) _)))))).mono ?_; rintro e w2 ⟨rfl, rfl⟩))
  all_goals (go_wp2_with fail; go_meet; exact ⟨rfl, by (repeat (first | with_reducible assumption | (with_reducible exact Keeps.refl _ _) | (with_reducible refine Keeps.drew ?_) | (with_reducible refine Keeps.alloc ?_ _) | (with_reducible refine Keeps.setCell ?_ (by first | exact Or.inl rfl | exact Or.inr (Nat.le_refl _) | exact Or.inr (by first | (simp; done) | (simp; omega))) _)))⟩)
 case rest =>
  obtain ⟨rfl, hk2⟩ := hcut
  clear B0 B1 B2 C0 C1 C2 kw
  replace hk1 := hk1.trans hk2
  clear zlt hw1 FZ FB
  generalize wc = w1 at *
  have B0 := boxed hk1 0 _ rfl; have B1 := boxed hk1 1 _ rfl; have B2 := boxed hk1 2 _ rfl; have FB := boxedz hk1; have hw1 := hw.on ((Keeps.refl NoB w).alloc (.cells #[.int .i64 0, .int .i64 0, .string ⟨#[]⟩] 90) |>.trans hk1); have C0 := hw1.c0; have C1 := hw1.c1; have C2 := hw1.c2; have FZ := hw1.fz; have zlt : w.heap.size < w1.heap.size := Nat.lt_of_lt_of_le (by simp) hk1.size; have kw : Keeps (fun b => b = g) w w1 := Keeps.of_none (((Keeps.refl NoB w).alloc (.cells #[.int .i64 0, .int .i64 0, .string ⟨#[]⟩] 90)).trans hk1)
  go_wp2_with fail
  (try simp only [Exit.inBlock, Exit.then])
  refine bodyPost_ret (v := .tuple #[plcV (.on (up at')), .string ⟨#[]⟩, .int .i64 0]) ?_ rfl ⟨rfl, ?_, ?_⟩
  ·rw [results_cell_tmp2 rfl]; (try unfold plcV); (try unfold Plc.no); (try unfold Plc.on); go_simp
  ·(repeat (first | with_reducible assumption | (with_reducible exact Keeps.refl _ _) | (with_reducible refine Keeps.drew ?_) | (with_reducible refine Keeps.alloc ?_ _) | (with_reducible refine Keeps.setCell ?_ (by first | exact Or.inl rfl | exact Or.inr (Nat.le_refl _) | exact Or.inr (by first | (simp; done) | (simp; omega))) _)))
  ·(repeat (first | with_reducible assumption | (with_reducible refine Wkr.set ?_ (by first | exact hgB | (simp; omega)) _ _) | (with_reducible refine Wkr.alloc ?_ _) | (with_reducible refine Wkr.drew ?_)))
theorem step_long (h : Rep R w0 a d room us lk up) (k : Keeps NoB w0 w) {at' : Int} {n : Nat} (hw : Wkr w g a at' n) (hI : DInv d) (x : ByteArray) (follow : Bool)
 (hin : intoErr d at' = 0) (h1 : ¬ x = dotB) (h2 : ¬ x = dotsB) (h3 : 255 < x.size) : Calls Tryz.prog 97 #[.pointer (some ⟨g, 0, none⟩), .string x, .bool follow] w (StepTo w g a at' ⟨.no, ⟨#[]⟩, 18, n⟩) := by
 have HIn := hid_into h k hw hI
 rw [hin] at HIn
 have hgB : ¬ g = w.heap.size := by have := hw.lt; omega
 have e1 : (x.toList == [46]) = false := not_dot h1
 have e2 : (x.toList == [46, 46]) = false := not_dots h2
 go_enter Tryz.func97, Tryz.ntmps97
 go_wp2_with (go_at_call 96; refine HIn.out.mono ?_; rintro e w1 ⟨rfl, hk1⟩; have B0 := boxed hk1 0 _ rfl; have B1 := boxed hk1 1 _ rfl; have B2 := boxed hk1 2 _ rfl; have FB := boxedz hk1; have hw1 := hw.on ((Keeps.refl NoB w).alloc (.cells #[.int .i64 0, .int .i64 0, .string ⟨#[]⟩] 90) |>.trans hk1); have C0 := hw1.c0; have C1 := hw1.c1; have C2 := hw1.c2; have FZ := hw1.fz; have zlt : w.heap.size < w1.heap.size := Nat.lt_of_lt_of_le (by simp) hk1.size; have kw : Keeps (fun b => b = g) w w1 := Keeps.of_none (((Keeps.refl NoB w).alloc (.cells #[.int .i64 0, .int .i64 0, .string ⟨#[]⟩] 90)).trans hk1))
 (try simp only [Exit.inBlock, Exit.then])
 refine bodyPost_ret (v := .tuple #[plcV .no, .string ⟨#[]⟩, .int .i64 18]) ?_ rfl ⟨rfl, ?_, ?_⟩
 ·rw [results_cell_tmp2 rfl]; (try unfold plcV); (try unfold Plc.no); (try unfold Plc.on); go_simp
 ·(repeat (first | with_reducible assumption | (with_reducible exact Keeps.refl _ _) | (with_reducible refine Keeps.drew ?_) | (with_reducible refine Keeps.alloc ?_ _) | (with_reducible refine Keeps.setCell ?_ (by first | exact Or.inl rfl | exact Or.inr (Nat.le_refl _) | exact Or.inr (by first | (simp; done) | (simp; omega))) _)))
 ·(repeat (first | with_reducible assumption | (with_reducible refine Wkr.set ?_ (by first | exact hgB | (simp; omega)) _ _) | (with_reducible refine Wkr.alloc ?_ _) | (with_reducible refine Wkr.drew ?_)))
end
end Go.Proofs.YtnaenhekjdmlaaaGreatDoor
