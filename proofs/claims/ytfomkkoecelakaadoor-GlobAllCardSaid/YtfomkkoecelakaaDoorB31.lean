/-
  Contracts of package walk: There.
-/
import Derived.Test.YtfomkkoecelakaaDoorB30

set_option linter.unusedSimpArgs false
set_option linter.unusedVariables false

set_option maxRecDepth 100000
set_option maxHeartbeats 2000000
namespace Go.Proofs.YtfomkkoecelakaaDoor
open Go Go.RowKit

/-- Where a path leads, which must be there. -/
def thereR (F : Plc × Int) : Plc × Int := if F.2 ≠ 0 then (.no, F.2) else if F.1.node = 0 then (.no, 12) else F

section
variable {R : RD} {w0 w w' : World} {a g : Nat} {d : Nds} {room us : Int} {lk up : Int → Int}

theorem wthere_any (h : Rep R w a d room us lk up) (hI : DInv d) (hs : smallD d) (from' : Int) (s0 : ByteArray) (follow : Bool) (hsz : s0.size ≤ 4294967280) :
    Calls Tryd.prog 21 #[.pointer (some ⟨a, 0, none⟩), .int .i64 from', .string s0, .bool follow] w fun e w' =>
      e = .returned (.tuple #[plcV (thereR (findR d up follow 41 from' s0 0)).1, .int .i64 (thereR (findR d up follow 41 from' s0 0)).2]) ∧ Keeps NoB w w' := by
  have k1 : Keeps NoB w (w.alloc (.cells #[.int .i64 0, .int .i64 0, .string ⟨#[]⟩] 55)) := (Keeps.refl _ _).alloc _
  have HFi := Lib.hid (wfind_any (h.keepN k1) hI hs from' s0 follow hsz)
  obtain ⟨⟨⟨node, dir, name⟩, fe⟩, hF⟩ : ∃ F, findR d up follow 41 from' s0 0 = F := ⟨_, rfl⟩
  rw [hF] at HFi ⊢
  clear hF
  unfold plcV at HFi
  simp only at HFi
  go_enter Tryd.func21, Tryd.ntmps21
  go_upto_region 2 with (first | (go_at_call 23; go_loud (refine HFi.out.mono ?_); rintro e w2 ⟨rfl, hk2⟩))
  have kz : Keeps NoB w (w2.alloc (.cells #[.int .i64 node, .int .i64 dir, .string name] 55)) := (k1.trans hk2).alloc _
  have KB := (c3_new (v0 := .int .i64 0) (v1 := .int .i64 0) (v2 := .string ⟨#[]⟩) hk2).on ((Keeps.refl NoB w2).alloc (.cells #[.int .i64 node, .int .i64 dir, .string name] 55))
  have KQ := c3_new (v0 := .int .i64 node) (v1 := .int .i64 dir) (v2 := .string name) (Keeps.refl NoB (w2.alloc (.cells #[.int .i64 node, .int .i64 dir, .string name] 55)))
  have hqb : w.heap.size < w2.heap.size := Nat.lt_of_lt_of_le (by simp) hk2.size
  generalize w2.alloc (.cells #[.int .i64 node, .int .i64 dir, .string name] 55) = w3 at *
  generalize w2.heap.size = qb at *
  clear HFi k1 hk2
  have B0 := KB.c0
  have B1 := KB.c1
  have B2 := KB.c2
  have FB := KB.fz
  have q0 := KQ.c0
  have q1 := KQ.c1
  have q2 := KQ.c2
  have ql := KQ.lt
  have bl := KB.lt
  by_cases he : fe ≠ 0
  · have hne : (fe != 0) = true := by simpa using he
    have HQ := Lib.hid (show thereR (⟨node, dir, name⟩, fe) = (.no, fe) by unfold thereR; rw [if_pos he])
    clear he
    go_wp2_with fail
    (try simp only [Exit.inBlock, Exit.then])
    refine bodyPost_ret (v := .tuple #[plcV .no, .int .i64 fe]) ?_ rfl ?_
    · rw [results_cell_tmp rfl]; unfold plcV Plc.no; go_simp
    · refine ⟨by rw [HQ.out], ?_⟩
      (repeat (first | with_reducible assumption | (with_reducible exact Keeps.refl _ _) | (with_reducible refine Keeps.drew ?_) | (with_reducible refine Keeps.alloc ?_ _) | (with_reducible refine Keeps.setCell ?_ (by first | exact Or.inl rfl | exact Or.inr (Nat.le_refl _) | exact Or.inr (by first | (simp; done) | (simp; omega))) _)))
  · have he0 : fe = 0 := Classical.not_not.1 he
    subst he0
    by_cases hn : node = 0
    · have hb : (node == 0) = true := by simpa using hn
      have HQ := Lib.hid (show thereR (⟨node, dir, name⟩, 0) = (.no, 12) by unfold thereR; rw [if_neg (by simp), if_pos hn])
      clear hn he
      go_wp2_with fail
      (try simp only [Exit.inBlock, Exit.then])
      refine bodyPost_ret (v := .tuple #[plcV .no, .int .i64 12]) ?_ rfl ?_
      · rw [results_cell_tmp rfl]; unfold plcV Plc.no; go_simp
      · refine ⟨by rw [HQ.out], ?_⟩
        (repeat (first | with_reducible assumption | (with_reducible exact Keeps.refl _ _) | (with_reducible refine Keeps.drew ?_) | (with_reducible refine Keeps.alloc ?_ _) | (with_reducible refine Keeps.setCell ?_ (by first | exact Or.inl rfl | exact Or.inr (Nat.le_refl _) | exact Or.inr (by first | (simp; done) | (simp; omega))) _)))
    · have hb : (node == 0) = false := by simpa using hn
      have HQ := Lib.hid (show thereR (⟨node, dir, name⟩, 0) = (⟨node, dir, name⟩, 0) by unfold thereR; rw [if_neg (by simp), if_neg hn])
      clear hn he
      go_wp2_with fail
      (try simp only [Exit.inBlock, Exit.then])
      refine bodyPost_ret (v := .tuple #[plcV ⟨node, dir, name⟩, .int .i64 0]) ?_ rfl ?_
      · rw [results_cell_tmp rfl]; unfold plcV; go_simp
      · refine ⟨by rw [HQ.out], ?_⟩
        (repeat (first | with_reducible assumption | (with_reducible exact Keeps.refl _ _) | (with_reducible refine Keeps.drew ?_) | (with_reducible refine Keeps.alloc ?_ _) | (with_reducible refine Keeps.setCell ?_ (by first | exact Or.inl rfl | exact Or.inr (Nat.le_refl _) | exact Or.inr (by first | (simp; done) | (simp; omega))) _)))
end
end Go.Proofs.YtfomkkoecelakaaDoor
