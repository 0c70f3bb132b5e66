/-
  Contracts of the reference for layer 5: way.
-/
import Derived.Test.YtbcejodnjeklpaaDoorB35
import Derived.Test.YtbcejodnjeklpaaDoorB36
import Derived.Test.YtbcejodnjeklpaaDoorB31
import Derived.Test.YtbcejodnjeklpaaDoorB32
import Derived.Test.YtbcejodnjeklpaaDoorB33

set_option linter.unusedSimpArgs false
set_option linter.unusedVariables false

set_option maxRecDepth 100000
namespace Go.Proofs.YtbcejodnjeklpaaDoor
open Go Go.RowKit

section
variable {S : Nat → Prop} {w : World} {p : Option Addr} {c : Nat} {d : Nds} {room : Int}

theorem way_step (hI : DInv d) (hs : smallD d) {up : Int → Int} (hup : ∀ i u, folderErr d i = 0 → UpIs d i u → up i = u) (hroot : intoErr d 1 = 0) (follow : Bool) (fuel : Nat) (ih : WayOk d up room follow fuel) : WayOk d up room follow (fuel + 1) := by
  intro S w p c h from' s n hsz h40 hfu
  cases hab : absB s with
  | true => exact way_true hI hs hup hroot follow fuel ih S w p c h from' s n hsz h40 hfu hab
  | false => exact way_false hI hs hup hroot follow fuel ih S w p c h from' s n hsz h40 hfu hab
end
end Go.Proofs.YtbcejodnjeklpaaDoor

/-
  Contracts of the reference for layer 5: Find, There.
-/
set_option maxRecDepth 100000
set_option maxHeartbeats 4000000
namespace Go.Proofs.YtbcejodnjeklpaaDoor
open Go Go.RowKit

section
variable {S : Nat → Prop} {w : World} {p : Option Addr} {c : Nat} {d : Nds} {room : Int}

theorem way_all (hI : DInv d) (hs : smallD d) {up : Int → Int} (hup : ∀ i u, folderErr d i = 0 → UpIs d i u → up i = u) (hroot : intoErr d 1 = 0) (follow : Bool) : ∀ fuel, WayOk d up room follow fuel
  | 0 => fun _ _ _ _ _ _ _ _ _ h1 h2 => by omega
  | fuel + 1 => way_step hI hs hup hroot follow fuel (way_all hI hs hup hroot follow fuel)


theorem r5find_any (h : RefAt S w p c d) (hI : DInv d) (hs : smallD d) {up : Int → Int} (hup : ∀ i u, folderErr d i = 0 → UpIs d i u → up i = u) (hroot : intoErr d 1 = 0) (from' : Int) (s : ByteArray) (follow : Bool) (hsz : s.size ≤ 4294967280) :
    Calls Tryd.prog 11 #[refV p c d room, .int .i64 from', .string s, .bool follow] w fun e w' =>
      e = .returned (.tuple #[plcV (findR d up follow 41 from' s 0).1, .int .i64 (findR d up follow 41 from' s 0).2]) ∧ Keeps NoB w w' := by
  have k1 : Keeps NoB w ((w.alloc (.cells #[.slice p d.length c, .int .i64 room] 28)).alloc (.cells #[.int .i64 0, .int .i64 0, .string ⟨#[]⟩] 44)) := ((Keeps.refl _ _).alloc _).alloc _
  have e1 : (w.alloc (.cells #[.slice p d.length c, .int .i64 room] 28)).heap.size = w.heap.size + 1 := by simp
  have HW := Lib.hid (way_all (room := room) hI hs hup hroot follow 41 _ _ _ _ (h.keepN k1) from' s 0 hsz (by decide) (by decide))
  obtain ⟨⟨⟨Fn, Fd, Fm⟩, Fe⟩, hF⟩ : ∃ F, findR d up follow 41 from' s 0 = F := ⟨_, rfl⟩
  rw [hF] at HW ⊢
  unfold plcV refV at HW
  unfold refV
  simp only at HW ⊢
  clear hF hup
  go_enter Tryd.func11, Tryd.ntmps11
  go_wp2_with (first | (go_at_call 33; go_loud (refine HW.out.mono ?_); rintro e w2 ⟨rfl, hk2⟩; have KB := c3_new (v0 := .int .i64 0) (v1 := .int .i64 0) (v2 := .string ⟨#[]⟩) hk2; rw [e1] at KB; have B0 := KB.c0; have B1 := KB.c1; have B2 := KB.c2; have FB := KB.fz; have bl := KB.lt; have kz := k1.trans hk2))
  (try simp only [Exit.inBlock, Exit.then])
  refine bodyPost_ret (v := .tuple #[plcV ⟨Fn, Fd, Fm⟩, .int .i64 Fe]) ?_ rfl ?_
  · rw [results_cell_tmp rfl]; unfold plcV; go_simp
  · refine ⟨rfl, ?_⟩
    (repeat (first | with_reducible assumption | (with_reducible exact Keeps.refl _ _) | (with_reducible refine Keeps.drew ?_) | (with_reducible refine Keeps.alloc ?_ _) | (with_reducible refine Keeps.setCell ?_ (by first | exact Or.inl rfl | exact Or.inr (Nat.le_refl _) | exact Or.inr (by first | (simp; done) | (simp; omega))) _)))

/-- What the reference's There answers. -/
def thereQ (F : Plc × Int) : Plc × Int := if F.2 = 0 ∧ F.1.node = 0 then (.no, 12) else F

theorem r5there_any (h : RefAt S w p c d) (hI : DInv d) (hs : smallD d) {up : Int → Int} (hup : ∀ i u, folderErr d i = 0 → UpIs d i u → up i = u) (hroot : intoErr d 1 = 0) (from' : Int) (s : ByteArray) (follow : Bool) (hsz : s.size ≤ 4294967280) :
    Calls Tryd.prog 13 #[refV p c d room, .int .i64 from', .string s, .bool follow] w fun e w' =>
      e = .returned (.tuple #[plcV (thereQ (findR d up follow 41 from' s 0)).1, .int .i64 (thereQ (findR d up follow 41 from' s 0)).2]) ∧ Keeps NoB w w' := by
  have k1 : Keeps NoB w ((w.alloc (.cells #[.slice p d.length c, .int .i64 room] 28)).alloc (.cells #[.int .i64 0, .int .i64 0, .string ⟨#[]⟩] 44)) := ((Keeps.refl _ _).alloc _).alloc _
  have e1 : (w.alloc (.cells #[.slice p d.length c, .int .i64 room] 28)).heap.size = w.heap.size + 1 := by simp
  have HW := Lib.hid (r5find_any (room := room) (h.keepN k1) hI hs hup hroot from' s follow hsz)
  obtain ⟨⟨⟨Fn, Fd, Fm⟩, Fe⟩, hF⟩ : ∃ F, findR d up follow 41 from' s 0 = F := ⟨_, rfl⟩
  rw [hF] at HW ⊢
  unfold plcV refV at HW
  unfold refV
  simp only at HW
  clear hF hup
  have hC : (Fe ≠ 0 ∨ (Fe = 0 ∧ Fn ≠ 0)) ∨ (Fe = 0 ∧ Fn = 0) := by
    by_cases g1 : Fe = 0
    · by_cases g2 : Fn = 0
      · exact .inr ⟨g1, g2⟩
      · exact .inl (.inr ⟨g1, g2⟩)
    · exact .inl (.inl g1)
  rcases hC with hC | ⟨g1, g2⟩
  · have HQ := Lib.hid (show thereQ (⟨Fn, Fd, Fm⟩, Fe) = (⟨Fn, Fd, Fm⟩, Fe) by
      unfold thereQ
      rw [if_neg]
      rintro ⟨h1, h2⟩
      exact hC.elim (fun h => h h1) (fun h => h.2 h2))
    rcases hC with g1 | ⟨g1, g2⟩
    · have b1 : (Fe == 0) = false := by simpa using g1
      go_enter Tryd.func13, Tryd.ntmps13
      go_wp2_with (first | (go_at_call 11; go_loud (refine HW.out.mono ?_); rintro e w2 ⟨rfl, hk2⟩; have KB := c3_new (v0 := .int .i64 0) (v1 := .int .i64 0) (v2 := .string ⟨#[]⟩) hk2; rw [e1] at KB; have B0 := KB.c0; have B1 := KB.c1; have B2 := KB.c2; have FB := KB.fz; have bl := KB.lt; have kz := k1.trans hk2))
      (try simp only [Exit.inBlock, Exit.then])
      refine bodyPost_ret (v := .tuple #[plcV ⟨Fn, Fd, Fm⟩, .int .i64 Fe]) ?_ rfl ?_
      · rw [results_cell_tmp rfl]; unfold plcV; go_simp
      · refine ⟨by rw [HQ.out], ?_⟩
        (repeat (first | with_reducible assumption | (with_reducible exact Keeps.refl _ _) | (with_reducible refine Keeps.drew ?_) | (with_reducible refine Keeps.alloc ?_ _) | (with_reducible refine Keeps.setCell ?_ (by first | exact Or.inl rfl | exact Or.inr (Nat.le_refl _) | exact Or.inr (by first | (simp; done) | (simp; omega))) _)))
    · have b1 : (Fe == 0) = true := by simpa using g1
      have b2 : (Fn == 0) = false := by simpa using g2
      clear g2
      go_enter Tryd.func13, Tryd.ntmps13
      go_wp2_with (first | (go_at_call 11; go_loud (refine HW.out.mono ?_); rintro e w2 ⟨rfl, hk2⟩; have KB := c3_new (v0 := .int .i64 0) (v1 := .int .i64 0) (v2 := .string ⟨#[]⟩) hk2; rw [e1] at KB; have B0 := KB.c0; have B1 := KB.c1; have B2 := KB.c2; have FB := KB.fz; have bl := KB.lt; have kz := k1.trans hk2))
      (try simp only [Exit.inBlock, Exit.then])
      refine bodyPost_ret (v := .tuple #[plcV ⟨Fn, Fd, Fm⟩, .int .i64 Fe]) ?_ rfl ?_
      · rw [results_cell_tmp rfl]; unfold plcV; go_simp
      · refine ⟨by rw [HQ.out], ?_⟩
        (repeat (first | with_reducible assumption | (with_reducible exact Keeps.refl _ _) | (with_reducible refine Keeps.drew ?_) | (with_reducible refine Keeps.alloc ?_ _) | (with_reducible refine Keeps.setCell ?_ (by first | exact Or.inl rfl | exact Or.inr (Nat.le_refl _) | exact Or.inr (by first | (simp; done) | (simp; omega))) _)))
  · have HQ := Lib.hid (show thereQ (⟨Fn, Fd, Fm⟩, Fe) = (.no, 12) by unfold thereQ; rw [if_pos ⟨g1, g2⟩])
    have b1 : (Fe == 0) = true := by simpa using g1
    have b2 : (Fn == 0) = true := by simpa using g2
    clear g2
    go_enter Tryd.func13, Tryd.ntmps13
    go_wp2_with (first | (go_at_call 11; go_loud (refine HW.out.mono ?_); rintro e w2 ⟨rfl, hk2⟩; have KB := c3_new (v0 := .int .i64 0) (v1 := .int .i64 0) (v2 := .string ⟨#[]⟩) hk2; rw [e1] at KB; have B0 := KB.c0; have B1 := KB.c1; have B2 := KB.c2; have FB := KB.fz; have bl := KB.lt; have kz := k1.trans hk2))
    (try simp only [Exit.inBlock, Exit.then])
    refine bodyPost_ret (v := .tuple #[plcV .no, .int .i64 12]) ?_ rfl ?_
    · rw [results_cell_tmp rfl]; unfold plcV Plc.no; go_simp
    · refine ⟨by rw [HQ.out], ?_⟩
      (repeat (first | with_reducible assumption | (with_reducible exact Keeps.refl _ _) | (with_reducible refine Keeps.drew ?_) | (with_reducible refine Keeps.alloc ?_ _) | (with_reducible refine Keeps.setCell ?_ (by first | exact Or.inl rfl | exact Or.inr (Nat.le_refl _) | exact Or.inr (by first | (simp; done) | (simp; omega))) _)))

/-- Behind an error there is no place. -/
theorem findR_err {up : Int → Int} {follow : Bool} (hroot : intoErr d 1 = 0) : ∀ (fuel : Nat) (from' : Int) (s : ByteArray) (n : Nat), (findR d up follow fuel from' s n).2 ≠ 0 → (findR d up follow fuel from' s n).1 = .no
  | 0, _, _, _, _ => rfl
  | fuel + 1, from', s, n, h => by
    rw [findR_succ] at h ⊢
    by_cases h1 : pathErr s ≠ 0
    · rw [if_pos h1]
    · rw [if_neg h1] at h ⊢
      by_cases h2 : prts s = []
      · have hs0 : ¬ s = ⟨#[]⟩ := fun e => by subst e; exact h1 (by decide)
        rw [if_pos h2, if_pos (isOn_abs s hs0 h2)] at h
        exact absurd hroot h
      · rw [if_neg h2] at h ⊢
        cases hs : scan d up (endS s) follow (prts s) (if absB s then 1 else from') n (.on from') with
        | fin q =>
          rw [hs] at h
          simp only at h ⊢
          unfold endR at h ⊢
          split
          · next e => rw [if_pos e] at h; exact absurd rfl h
          · next e =>
            rw [if_neg e] at h
            split
            · rfl
            · next e2 => rw [if_neg e2] at h; exact absurd rfl h
        | err e => rfl
        | again a2 s2 n2 =>
          rw [hs] at h
          exact findR_err hroot fuel a2 s2 n2 h

/-- Both Theres answer the same, as an error's place is none. -/
theorem there_same {F : Plc × Int} (h : F.2 ≠ 0 → F.1 = .no) : thereQ F = thereR F := by
  obtain ⟨P, e⟩ := F
  unfold thereQ thereR
  simp only at h ⊢
  by_cases he : e = 0
  · subst he
    rw [if_neg (show ¬ ((0 : Int) ≠ 0) by simp)]
    by_cases hn : P.node = 0
    · rw [if_pos ⟨rfl, hn⟩, if_pos hn]
    · rw [if_neg (fun h => hn h.2), if_neg hn]
  · rw [if_neg (fun h => he h.1), if_pos he, h he]
end
end Go.Proofs.YtbcejodnjeklpaaDoor

/-
  Layer 5: what the reference answers on a disk that has been built.
-/
set_option maxRecDepth 100000
namespace Go.Proofs.YtbcejodnjeklpaaDoor
open Go Go.RowKit

section
variable {w w' : World} {a : Nat} {d : Nds} {p : Option Addr} {c : Nat} {lk up : Int → Int}

theorem W5.rfind (h : W5 w a d p c lk up) (from' : Int) (s : ByteArray) (follow : Bool) (hsz : s.size ≤ 4294967280) :
    Calls Tryd.prog 11 #[refV p c d room5, .int .i64 from', .string s, .bool follow] w fun e w' =>
      e = .returned (.tuple #[plcV (findR d up follow 41 from' s 0).1, .int .i64 (findR d up follow 41 from' s 0).2]) ∧ Keeps NoB w w' := by
  obtain ⟨S, hr⟩ := h.ref
  exact r5find_any hr h.inv h.small h.upis h.root from' s follow hsz

theorem W5.rthere (h : W5 w a d p c lk up) (from' : Int) (s : ByteArray) (follow : Bool) (hsz : s.size ≤ 4294967280) :
    Calls Tryd.prog 13 #[refV p c d room5, .int .i64 from', .string s, .bool follow] w fun e w' =>
      e = .returned (.tuple #[plcV (thereR (findR d up follow 41 from' s 0)).1, .int .i64 (thereR (findR d up follow 41 from' s 0)).2]) ∧ Keeps NoB w w' := by
  obtain ⟨S, hr⟩ := h.ref
  have := r5there_any (room := room5) hr h.inv h.small h.upis h.root from' s follow hsz
  rw [there_same (fun he => findR_err h.root 41 from' s 0 he)] at this
  exact this

theorem W5.rwhole (h : W5 w a d p c lk up) (id : Int) (W : ByteArray) (hk : (nd d id).kind = 2) (hW : WP d id ⟨#[]⟩ W) :
    Calls Tryd.prog 16 #[refV p c d room5, .int .i64 id] w fun e w' => e = .returned (.tuple #[.string W, .bool true]) ∧ Keeps NoB w w' := by
  obtain ⟨S, hr⟩ := h.ref
  exact r5whole_any hr h.inv h.small h.upis h.par id W hk hW

end

end Go.Proofs.YtbcejodnjeklpaaDoor
