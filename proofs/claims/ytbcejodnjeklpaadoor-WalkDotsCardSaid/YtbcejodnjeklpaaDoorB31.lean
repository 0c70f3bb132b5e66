/-
  Contracts of package walk: There.
-/
import Derived.Test.YtbcejodnjeklpaaDoorB30
import Derived.Test.YtbcejodnjeklpaaDoorB24
import Derived.Test.YtbcejodnjeklpaaDoorB12

set_option linter.unusedSimpArgs false
set_option linter.unusedVariables false

set_option maxRecDepth 100000
set_option maxHeartbeats 2000000
namespace Go.Proofs.YtbcejodnjeklpaaDoor
open Go Go.RowKit

/-- Where a path leads, which must be there. -/
def thereR (F : Plc × Int) : Plc × Int := if F.2 ≠ 0 then (.no, F.2) else if F.1.node = 0 then (.no, 12) else F

section
variable {R : RD} {w0 w w' : World} {a g : Nat} {d : Nds} {room us : Int} {lk up : Int → Int}

theorem wthere_any (h : Rep R w a d room us lk up) (hI : DInv d) (hs : smallD d) (from' : Int) (s0 : ByteArray) (follow : Bool) (hsz : s0.size ≤ 4294967280) :
    Calls Tryd.prog 12 #[.pointer (some ⟨a, 0, none⟩), .int .i64 from', .string s0, .bool follow] w fun e w' =>
      e = .returned (.tuple #[plcV (thereR (findR d up follow 41 from' s0 0)).1, .int .i64 (thereR (findR d up follow 41 from' s0 0)).2]) ∧ Keeps NoB w w' := by
  have k1 : Keeps NoB w (w.alloc (.cells #[.int .i64 0, .int .i64 0, .string ⟨#[]⟩] 35)) := (Keeps.refl _ _).alloc _
  have HFi := Lib.hid (wfind_any (h.keepN k1) hI hs from' s0 follow hsz)
  obtain ⟨⟨⟨node, dir, name⟩, fe⟩, hF⟩ : ∃ F, findR d up follow 41 from' s0 0 = F := ⟨_, rfl⟩
  rw [hF] at HFi ⊢
  clear hF
  unfold plcV at HFi
  simp only at HFi
  go_enter Tryd.func12, Tryd.ntmps12
  go_upto_region 2 with (first | (go_at_call 10; go_loud (refine HFi.out.mono ?_); rintro e w2 ⟨rfl, hk2⟩))
  have kz : Keeps NoB w (w2.alloc (.cells #[.int .i64 node, .int .i64 dir, .string name] 35)) := (k1.trans hk2).alloc _
  have KB := (c3_new (v0 := .int .i64 0) (v1 := .int .i64 0) (v2 := .string ⟨#[]⟩) hk2).on ((Keeps.refl NoB w2).alloc (.cells #[.int .i64 node, .int .i64 dir, .string name] 35))
  have KQ := c3_new (v0 := .int .i64 node) (v1 := .int .i64 dir) (v2 := .string name) (Keeps.refl NoB (w2.alloc (.cells #[.int .i64 node, .int .i64 dir, .string name] 35)))
  have hqb : w.heap.size < w2.heap.size := Nat.lt_of_lt_of_le (by simp) hk2.size
  generalize w2.alloc (.cells #[.int .i64 node, .int .i64 dir, .string name] 35) = w3 at *
  generalize w2.heap.size = qb at *
  clear HFi k1 hk2
  have B0 := KB.c0
  have B1 := KB.c1
  have B2 := KB.c2
  have FB := KB.fz
  have q0 := KQ.c0
  have q1 := KQ.c1
  have q2 := KQ.c2
  have ql := KQ.lt
  have bl := KB.lt
  by_cases he : fe ≠ 0
  · have hne : (fe != 0) = true := by simpa using he
    have HQ := Lib.hid (show thereR (⟨node, dir, name⟩, fe) = (.no, fe) by unfold thereR; rw [if_pos he])
    clear he
    go_wp2_with fail
    (try simp only [Exit.inBlock, Exit.then])
    refine bodyPost_ret (v := .tuple #[plcV .no, .int .i64 fe]) ?_ rfl ?_
    · rw [results_cell_tmp rfl]; unfold plcV Plc.no; go_simp
    · refine ⟨by rw [HQ.out], ?_⟩
      (repeat (first | with_reducible assumption | (with_reducible exact Keeps.refl _ _) | (with_reducible refine Keeps.drew ?_) | (with_reducible refine Keeps.alloc ?_ _) | (with_reducible refine Keeps.setCell ?_ (by first | exact Or.inl rfl | exact Or.inr (Nat.le_refl _) | exact Or.inr (by first | (simp; done) | (simp; omega))) _)))
  · have he0 : fe = 0 := Classical.not_not.1 he
    subst he0
    by_cases hn : node = 0
    · have hb : (node == 0) = true := by simpa using hn
      have HQ := Lib.hid (show thereR (⟨node, dir, name⟩, 0) = (.no, 12) by unfold thereR; rw [if_neg (by simp), if_pos hn])
      clear hn he
      go_wp2_with fail
      (try simp only [Exit.inBlock, Exit.then])
      refine bodyPost_ret (v := .tuple #[plcV .no, .int .i64 12]) ?_ rfl ?_
      · rw [results_cell_tmp rfl]; unfold plcV Plc.no; go_simp
      · refine ⟨by rw [HQ.out], ?_⟩
        (repeat (first | with_reducible assumption | (with_reducible exact Keeps.refl _ _) | (with_reducible refine Keeps.drew ?_) | (with_reducible refine Keeps.alloc ?_ _) | (with_reducible refine Keeps.setCell ?_ (by first | exact Or.inl rfl | exact Or.inr (Nat.le_refl _) | exact Or.inr (by first | (simp; done) | (simp; omega))) _)))
    · have hb : (node == 0) = false := by simpa using hn
      have HQ := Lib.hid (show thereR (⟨node, dir, name⟩, 0) = (⟨node, dir, name⟩, 0) by unfold thereR; rw [if_neg (by simp), if_neg hn])
      clear hn he
      go_wp2_with fail
      (try simp only [Exit.inBlock, Exit.then])
      refine bodyPost_ret (v := .tuple #[plcV ⟨node, dir, name⟩, .int .i64 0]) ?_ rfl ?_
      · rw [results_cell_tmp rfl]; unfold plcV; go_simp
      · refine ⟨by rw [HQ.out], ?_⟩
        (repeat (first | with_reducible assumption | (with_reducible exact Keeps.refl _ _) | (with_reducible refine Keeps.drew ?_) | (with_reducible refine Keeps.alloc ?_ _) | (with_reducible refine Keeps.setCell ?_ (by first | exact Or.inl rfl | exact Or.inr (Nat.le_refl _) | exact Or.inr (by first | (simp; done) | (simp; omega))) _)))
end
end Go.Proofs.YtbcejodnjeklpaaDoor

/-
  Contracts of package walk: Whole.
-/
set_option maxRecDepth 100000
set_option maxHeartbeats 4000000
namespace Go.Proofs.YtbcejodnjeklpaaDoor
open Go Go.RowKit

section
variable {R : RD} {w0 w w' : World} {a g : Nat} {d : Nds} {room us : Int} {lk up : Int → Int}

theorem wwhole_err (h : Rep R w a d room us lk up) (id : Int) (hf : folderErr d id ≠ 0) (h1 : id ≠ 1) :
    Calls Tryd.prog 14 #[.pointer (some ⟨a, 0, none⟩), .int .i64 id] w fun e w' => e = .returned (.tuple #[.string ⟨#[]⟩, .int .i64 (folderErr d id)]) ∧ Keeps NoB w w' := by
  have HU := Lib.hid (up_any h id)
  rw [if_neg hf] at HU
  have hb : (id == 1) = false := by simpa using h1
  have hne : (folderErr d id != 0) = true := by simpa using hf
  generalize folderErr d id = fe at *
  go_enter Tryd.func14, Tryd.ntmps14
  go_wp2
  go_step3
  go_wp2
  go_step3
  go_wp2_with (first | (go_at_call 34; go_loud (refine HU.out.mono ?_); rintro e w2 ⟨rfl, zw⟩; subst zw))
  (try simp only [Exit.noGoto_ret])
  go_ret2
  exact ⟨rfl, Keeps.refl _ _⟩

/-- At the label 'next'. -/
structure WholeJ (d : Nds) (W : ByteArray) (w w' : World) (id : Int) (s : ByteArray) : Prop where
  keeps : Keeps NoB w w'
  kind : (nd d id).kind = 2
  size : s.size + 256 * ancs d id ≤ 256 * d.length
  way : WP d id s W

def WholeA (d : Nds) (W : ByteArray) (w : World) (a : Nat) (a' : Act) (w' : World) : Prop :=
  ∃ (fz : Nat → Value) (id : Int) (s : ByteArray), a' = { tmps := List.toArray (.pointer (some ⟨a, 0, none⟩) :: .int .i64 id :: fz 2 :: fz 3 :: fz 4 :: fz 5 :: .string s :: fz 7 :: fz 8 :: fz 9 :: fz 10 :: fz 11 :: fz 12 :: fz 13 :: fz 14 :: fz 15 :: fz 16 :: fz 17 :: fz 18 :: fz 19 :: fz 20 :: fz 21 :: fz 22 :: fz 23 :: fz 24 :: fz 25 :: fz 26 :: fz 27 :: fz 28 :: fz 29 :: fz 30 :: fz 31 :: fz 32 :: fz 33 :: fz 34 :: fz 35 :: fz 36 :: fz 37 :: fz 38 :: fz 39 :: fz 40 :: fz 41 :: fz 42 :: fz 43 :: fz 44 :: fz 45 :: fz 46 :: fz 47 :: fz 48 :: fz 49 :: fz 50 :: fz 51 :: fz 52 :: fz 53 :: []), defers := [] } ∧ WholeJ d W w w' id s

theorem WholeA.mk {W : ByteArray} {a' : Act} {id : Int} {s : ByteArray} (h : (fun fz : Nat → Value => a' = { tmps := List.toArray (.pointer (some ⟨a, 0, none⟩) :: .int .i64 id :: fz 2 :: fz 3 :: fz 4 :: fz 5 :: .string s :: fz 7 :: fz 8 :: fz 9 :: fz 10 :: fz 11 :: fz 12 :: fz 13 :: fz 14 :: fz 15 :: fz 16 :: fz 17 :: fz 18 :: fz 19 :: fz 20 :: fz 21 :: fz 22 :: fz 23 :: fz 24 :: fz 25 :: fz 26 :: fz 27 :: fz 28 :: fz 29 :: fz 30 :: fz 31 :: fz 32 :: fz 33 :: fz 34 :: fz 35 :: fz 36 :: fz 37 :: fz 38 :: fz 39 :: fz 40 :: fz 41 :: fz 42 :: fz 43 :: fz 44 :: fz 45 :: fz 46 :: fz 47 :: fz 48 :: fz 49 :: fz 50 :: fz 51 :: fz 52 :: fz 53 :: []), defers := [] }) (fun i => a'.tmps.toList.getD i undef))
    (J : WholeJ d W w w' id s) : WholeA d W w a a' w' := ⟨fun i => a'.tmps.toList.getD i undef, id, s, h, J⟩

theorem whole_any (h : Rep R w a d room us lk up) (hI : DInv d) (hu : UpOk d lk up) (hs : smallD d) (id0 : Int) (W : ByteArray) (hk0 : (nd d id0).kind = 2) (hW : WP d id0 ⟨#[]⟩ W) :
    Calls Tryd.prog 14 #[.pointer (some ⟨a, 0, none⟩), .int .i64 id0] w fun e w' => e = .returned (.tuple #[.string W, .int .i64 0]) ∧ Keeps NoB w w' := by
  have hlen := mass_ge d
  have hs' := hs
  unfold smallD at hs'
  go_enter Tryd.func14, Tryd.ntmps14
  go_wp2
  refine wp_scope_goto 0 (WholeA d W w a) (fun a' _ => ancs d (intOf (a'.tmps.getD 1 undef))) rfl ?_ ?_
  · intro HJ
    have HJ' := Lib.hid HJ
    clear HJ
    go_wp2
    go_step3
    go_step
    go_step
    refine HJ'.out _ _ ?_
    exact WholeA.mk (id := id0) (s := ⟨#[]⟩) rfl ⟨Keeps.refl _ _, hk0, by have := ancs_le d id0; show 0 + _ ≤ _; omega, hW⟩
  · rintro a' w1 ⟨fz, id, s, rfl, J⟩
    have hk := J.keeps
    have hsz := J.size
    by_cases h1 : id = 1
    · subst h1
      have HQ := Lib.hid (J.way.at_root hI)
      go_wp2_with fail
      (try simp only [Exit.jump, Exit.inBlock, Exit.then])
      go_ret2
      exact ⟨by rw [HQ.out]; rfl, hk⟩
    · have hb : (id == 1) = false := by simpa using h1
      obtain ⟨hkd, u, e, hp, he, hei, huni, hWu⟩ := J.way.above hI h1
      have hhi : has d id := by unfold has; rw [hkd]; decide
      have hfe : folderErr d id = 0 := by unfold folderErr; rw [if_neg hhi, if_pos hkd]
      have huk := hp.dir hI
      have hhu : has d u := by unfold has; rw [huk]; decide
      have hfu : folderErr d u = 0 := by unfold folderErr; rw [if_neg hhu, if_pos huk]
      have hupi : up id = u := (hu id hhi).1 u hp
      have HU := Lib.hid (up_any (h.keepN hk) id)
      rw [hfe, if_pos rfl, hupi] at HU
      have HL := Lib.hid (fun wx (kx : Keeps NoB w1 wx) => listD_any (h.keepN (hk.trans kx)) u (nd_ents_len hs u))
      rw [hfu] at HL
      simp only [if_true] at HL
      have hal := ancs_lt hI hp
      have h2 : e.1.size ≤ 255 := by have := (hI.node u).names e he; simp [okName] at this; omega
      have hsb : s.size ≤ 549755813888 := by omega
      have hse : (e.1 ++ slB s).size ≤ s.size + 256 := by
        rw [ByteArray.size_append]
        unfold slB
        split
        · show _ + 0 ≤ _; omega
        · rw [ByteArray.size_append]; show _ + (1 + _) ≤ _; omega
      have HJ : Hid (WholeJ d W w w1 u (e.1 ++ slB s)) := ⟨hk, huk, by omega, hWu⟩
      obtain ⟨es, hes⟩ : ∃ es, (nd d u).ents = es := ⟨_, rfl⟩
      rw [hes] at HL he huni
      have hlen2 : es.length < 4294967295 := by rw [← hes]; exact nd_ents_len hs u
      have HH := Lib.hid (And.intro he (And.intro hei huni))
      have HA := Lib.hid hal
      have HC := Lib.hid hk
      clear hp he hei huni hWu hhi hfe huk hhu hfu hupi hes J hal hkd
      go_upto_region 10 with (first | (go_at_call 34; go_loud (refine HU.out.mono ?_); rintro ex w2 ⟨rfl, zw⟩; subst zw) | (go_at_call 35; go_loud (refine (HL.out _ (Keeps.refl _ _)).mono ?_); rintro ex w2 ⟨v, rfl, hown, hk2⟩; obtain ⟨p1, c1, rfl, hsl⟩ := hown.sl))
      have hcap := hsl.cap
      have hmax := hsl.max
      unfold maxLen at hmax
      go_wp2_with fail
      go_loopw [1, 6, 36] (fun v1 v6 i wr => v1 = .int .i64 id ∧ v6 = .string s ∧ ∃ k : Nat, k ≤ es.length ∧ i = .int .i64 k ∧ (∀ j x, j < k → es[j]? = some x → ¬ x.2 = id) ∧ Keeps NoB w2 wr) (fun _ _ i _ => es.length - (intOf i).toNat)
      case atStart => exact ⟨rfl, rfl, 0, Nat.zero_le _, rfl, fun j x hj => by omega, Keeps.refl _ _⟩
      case round =>
        obtain ⟨rfl, rfl, k, hk, rfl, hno, hkr⟩ := hrel
        have Hno := Lib.hid hno
        clear hno
        by_cases hlt : k < es.length
        · obtain ⟨x, hx⟩ : ∃ x, es[k]? = some x := ⟨_, List.getElem?_eq_getElem hlt⟩
          obtain ⟨gb, off, rfl, hS, hg, c0, c1'⟩ := (hsl.keepN hkr).ent hx
          have Hx := Lib.hid hx
          clear hx
          have kx : Hid (Keeps NoB w (wr.alloc (.cells #[.string x.1, .int .i64 x.2] 87))) := Lib.hid (((HC.out.trans hk2).trans hkr).alloc _)
          by_cases hxi : x.2 = id
          · have hbx : (x.2 == id) = true := by simpa using hxi
            have hxe : x = e := HH.out.2.2 x (List.mem_of_getElem? Hx.out) hxi
            subst hxe
            have HJ2 := HJ.out
            by_cases hs0 : s = ⟨#[]⟩
            · subst hs0
              have HJ3 : Hid (WholeJ d W w (wr.alloc (.cells #[.string x.1, .int .i64 x.2] 87)) u (x.1 ++ ⟨#[]⟩)) := Lib.hid ⟨kx.out, HJ2.kind, HJ2.size, HJ2.way⟩
              clear HJ2 HJ
              go_wp2_with fail
              (try go_step3)
              (try simp only [Exit.jump, Exit.inBlock, Exit.then])
              refine ⟨rfl, WholeA.mk (id := u) (s := x.1 ++ ⟨#[]⟩) rfl (by have hj := HJ3.out; rw [hxi] at hj; exact hj), ?_⟩
              simpa [intOf] using HA.out
            · have hne := notEmpty_eq hs0
              have hsl' : slB s = slashB ++ s := by unfold slB; rw [if_neg hs0]
              rw [hsl'] at HJ2
              have HJ3 : Hid (WholeJ d W w (wr.alloc (.cells #[.string x.1, .int .i64 x.2] 87)) u (x.1 ++ (slashB ++ s))) := Lib.hid ⟨kx.out, HJ2.kind, HJ2.size, HJ2.way⟩
              clear HJ2 HJ hsl' hs0
              go_wp2_with fail
              (try go_step3)
              (try simp only [Exit.jump, Exit.inBlock, Exit.then])
              refine ⟨rfl, WholeA.mk (id := u) (s := x.1 ++ (slashB ++ s)) rfl (by have hj := HJ3.out; rw [hxi] at hj; exact hj), ?_⟩
              simpa [intOf] using HA.out
          · have hbx : (x.2 == id) = false := by simpa using hxi
            go_wp2_with fail
            go_roundw
            case rel =>
              refine ⟨rfl, rfl, k + 1, by omega, by go_num, fun j y hj hy => ?_, hkr.alloc _⟩
              by_cases ej : j = k
              · subst ej; rw [Hx.out] at hy; cases hy; exact hxi
              · exact Hno.out j y (by omega) hy
            case measure => simp [intOf]; omega
        · exfalso
          obtain ⟨j, hj⟩ := List.mem_iff_getElem?.1 HH.out.1
          exact Hno.out j e (by have := (List.getElem?_eq_some_iff.1 hj).1; omega) hj HH.out.2.1
end
end Go.Proofs.YtbcejodnjeklpaaDoor
