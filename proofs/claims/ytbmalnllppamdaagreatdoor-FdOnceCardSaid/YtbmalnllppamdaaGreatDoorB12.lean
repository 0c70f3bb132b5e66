/-
  Contracts of package disk, the twelfth part: gives, below.
-/
import Derived.Test.YtbmalnllppamdaaGreatDoorB11
import Derived.Test.YtbmalnllppamdaaGreatDoorB09

set_option linter.unusedSimpArgs false
set_option linter.unusedVariables false

namespace Go.Proofs.YtbmalnllppamdaaGreatDoor
open Go.RowKit
set_option maxRecDepth 100000
set_option maxHeartbeats 1000000

def givesErr (d : Nds) (k old : Int) : Int :=
  if (nd d k).kind = 2 ∧ (nd d old).kind ≠ 2 then 14 else if (nd d k).kind ≠ 2 ∧ (nd d old).kind = 2 then 15 else if (nd d old).ents ≠ [] then 16 else 0

section
variable {R : RD} {w : World} {a : Nat} {d : Nds} {room us : Int} {lk up : Int → Int}

theorem gives_any (h : Rep R w a d room us lk up) (hI : DInv d) (k old : Int) (hk : has d k) (ho : has d old) :
    Calls Tryz.prog 206 #[.pointer (some ⟨a, 0, none⟩), .pointer (some ⟨R.g k, 0, none⟩), .pointer (some ⟨R.g old, 0, none⟩)] w fun e w' => e = .returned (.int .i64 (givesErr d k old)) ∧ w = w' := by
  have c0 := (h.node k hk).kind
  have d0 := (h.node old ho).kind
  have hlen := Lib.hid (len_any (fun _ => True) w ⟨R.g old, 5, none⟩ (R.ev old) (nd d old).ents ((h.node old ho).dir.any (fun _ _ => trivial)))
  have hflat := (hI.node old).flat
  unfold givesErr
  have he : (nd d old).ents ≠ [] ↔ 0 < (nd d old).ents.length := by rw [List.length_pos_iff]
  have hf2 : (nd d old).kind ≠ 2 → ¬ 0 < (nd d old).ents.length := fun h2 => by rw [hflat h2]; simp
  simp only [he]
  clear h hI he hflat
  generalize (nd d old).ents.length = ln at *
  generalize (nd d k).kind = kk at *
  generalize (nd d old).kind = ko at *
  have hb : ∀ x : Int, (x = 2 ∧ (x == 2) = true ∧ (x != 2) = false) ∨ (x ≠ 2 ∧ (x == 2) = false ∧ (x != 2) = true) := fun x => by
    by_cases h : x = 2
    · exact .inl ⟨h, by simpa using h, by simpa using h⟩
    · exact .inr ⟨h, by simpa using h, by simpa using h⟩
  have hl : (0 < ln ∧ (0 : Int) < (ln : Int)) ∨ (¬ 0 < ln ∧ ¬ (0 : Int) < (ln : Int)) := by omega
  rcases hb kk with ⟨a1, a2, a3⟩ | ⟨a1, a2, a3⟩ <;> rcases hb ko with ⟨b1, b2, b3⟩ | ⟨b1, b2, b3⟩ <;> rcases hl with ⟨l1, l2⟩ | ⟨l1, l2⟩
  all_goals first | exact absurd l1 (hf2 b1) | skip
  all_goals
    simp only [a1, b1, l1, ne_eq, not_true_eq_false, not_false_eq_true, and_true, and_false, true_and, false_and, if_true, if_false]
    clear hb hf2
    (try subst a1)
    (try subst b1)
    go_enter Tryz.func206, Tryz.ntmps206
    go_wp2_with (go_at_call 106; refine hlen.out.mono ?_; rintro e w1 ⟨rfl, rfl⟩)
    go_ret
    exact ⟨rfl, rfl⟩

open Classical in
noncomputable def muB (d : Nds) (x : Int) : Nat := if x = 0 then 0 else ancs d x + 1

/-- It answers whether P, and turns nothing. -/
def SaysW (w w' : World) (e : Ending) (P : Prop) : Prop := ∃ b : Bool, e = .returned (.bool b) ∧ (b = true ↔ P) ∧ w = w'

/-- A step up. -/
theorem up_step (hI : DInv d) (hup : UpOk d lk up) (hcnt : ∀ i, has d i → lk i = (links d i : Nat)) (top i x : Int) (hx : (nd d x).kind = 2) (hne : x ≠ top) (h1 : x ≠ 1) (hiff : Above d top x ↔ Above d top i) :
    (((nd d (up x)).kind = 2 ∧ (Above d top (up x) ↔ Above d top i)) ∨ (up x = 0 ∧ ¬ Above d top i)) ∧ muB d (up x) < muB d x := by
  have hh := setE_pos hI hx
  have hp := hI.pos hh
  obtain ⟨u1, u2, u3⟩ := hup x hh
  have hmx : muB d x = ancs d x + 1 := by unfold muB; rw [if_neg (by omega)]
  by_cases hc : cnt d x = 0
  · have h0 := u3 (by rw [hcnt x hh]; unfold links; rw [hc, if_neg h1]; rfl)
    refine ⟨.inr ⟨h0, fun ha => ?_⟩, ?_⟩
    · exact hne ((above_top (no_par_cnt hc)).1 (hiff.2 ha)).symm
    · rw [h0, hmx]; unfold muB; rw [if_pos rfl]; omega
  · obtain ⟨j, e, he, h2⟩ := cnt_pos.1 (Nat.pos_of_ne_zero hc)
    have hP : Par d j x := ⟨hx, e, he, h2⟩
    have hu := u1 j hP
    rw [hu]
    have hl := ancs_lt hI hP
    refine ⟨.inl ⟨hP.dir hI, ?_⟩, ?_⟩
    · rw [← hiff, above_par hI hP (fun e => hne e.symm)]
    · rw [hmx]; unfold muB; split <;> omega

theorem below_any {pend : Int → Nat} (hC : Casc R w a d room lk up pend) (hz : pend = zp) (i top : Int) (hi : (nd d i).kind = 2) (ht : has d top) (ht1 : top ≠ 1) :
    Calls Tryz.prog 205 #[.pointer (some ⟨a, 0, none⟩), .int .i64 i, .int .i64 top] w fun e w' => SaysW w w' e (Above d top i) := by
  subst hz
  have hl := hC.rep.l
  have HLk := Lib.hid hC.rep.look
  have HN := Lib.hid hC.rep.node
  have hcnt : ∀ i, has d i → lk i = (links d i : Nat) := fun j hj => by have := hC.cnt j hj; unfold zp at this; exact this
  have HS := Lib.hid (up_step hC.inv hC.upok hcnt top i)
  have HI := Lib.hid hC.inv
  have ht0 : top ≠ 0 := fun e => by subst e; unfold has at ht; rw [hC.inv.zero] at ht; exact ht rfl
  have HT : Hid (¬ Above d top 1) := fun ha => ht1 ((above_top (no_par_root HI.out)).1 ha)
  clear hC hcnt
  go_enter Tryz.func205, Tryz.ntmps205
  go_wp2
  refine wp_scope_goto 0 (fun a' w' => ∃ x : Int, ∃ (u3 u4 u5 u7 u8 u9 u10 u11 u12 u13 u14 u15 u16 u17 u18 u19 u20 u21 u22 u23 u24 u25 u26 : Value), a' = { tmps := #[.pointer (some ⟨a, 0, none⟩), .int .i64 x, .int .i64 top, u3, u4, u5, .bool false, u7, u8, u9, u10, u11, u12, u13, u14, u15, u16, u17, u18, u19, u20, u21, u22, u23, u24, u25, u26], defers := [] } ∧ w' = w ∧ (((nd d x).kind = 2 ∧ (Above d top x ↔ Above d top i)) ∨ (x = 0 ∧ ¬ Above d top i))) (fun a' _ => muB d (intOf (a'.tmps.getD 1 undef))) rfl ?_ ?_
  · intro HJ
    have HJ' := Lib.hid HJ
    clear HJ
    go_wp2
    go_step3
    go_step
    go_step
    refine HJ'.out _ _ ?_
    exact ⟨i, _, _, _, _, _, _, _, _, _, _, _, _, _, _, _, _, _, _, _, _, _, _, _, rfl, rfl, .inl ⟨hi, Iff.rfl⟩⟩
  · rintro a' w1 ⟨x, u3, u4, u5, u7, u8, u9, u10, u11, u12, u13, u14, u15, u16, u17, u18, u19, u20, u21, u22, u23, u24, u25, u26, rfl, rfl, hx⟩
    have Hx := Lib.hid hx
    by_cases e1 : x = top
    · have hb : (x == top) = true := by simpa using e1
      have He := Lib.hid e1
      clear e1 hx
      go_wp2
      simp only [Exit.jump]
      go_ret
      refine ⟨true, rfl, ⟨fun _ => ?_, fun _ => rfl⟩, rfl⟩
      rcases Hx.out with ⟨h1, h2⟩ | ⟨h1, h2⟩
      · rw [← h2, He.out]; exact .self
      · exact absurd (He.out.symm.trans h1) ht0
    · have hb : (x == top) = false := by simpa using e1
      have hlk := HLk.out x
      unfold nodeV at hlk
      have He := Lib.hid e1
      clear e1
      by_cases hh : has d x
      · rw [if_pos hh] at hlk
        have hup := (HN.out x hh).up
        have hx2 := hx.resolve_right (fun h => by have := h.1; subst this; unfold has at hh; rw [HI.out.zero] at hh; exact hh rfl)
        have Hx2 := Lib.hid hx2
        clear hx hx2 hh
        by_cases e2 : x = 1
        · have hb1 : (x == 1) = true := by simpa using e2
          have He2 := Lib.hid e2
          clear e2
          go_wp2
          simp only [Exit.jump]
          go_ret
          refine ⟨false, rfl, ⟨(fun h => by cases h), fun h => ?_⟩, rfl⟩
          have := Hx2.out.2.2 h
          rw [He2.out] at this
          exact absurd this HT.out
        · have hb1 : (x == 1) = false := by simpa using e2
          have He2 := Lib.hid e2
          clear e2
          have hst := HS.out x Hx2.out.1 He.out He2.out Hx2.out.2
          go_wp2
          go_step3
          refine ⟨rfl, ⟨up x, _, _, _, _, _, _, _, _, _, _, _, _, _, _, _, _, _, _, _, _, _, _, _, rfl, rfl, hst.1⟩, ?_⟩
          simpa [intOf] using hst.2
      · rw [if_neg hh] at hlk
        have hx2 : x = 0 ∧ ¬ Above d top i := by
          rcases hx with ⟨h1, _⟩ | h
          · exact absurd (setE_pos HI.out h1) hh
          · exact h
        have Hx2 := Lib.hid hx2
        clear hx hx2 hh
        go_wp2
        simp only [Exit.jump]
        go_ret
        exact ⟨false, rfl, ⟨(fun h => by cases h), fun h => absurd h Hx2.out.2⟩, rfl⟩

end

end Go.Proofs.YtbmalnllppamdaaGreatDoor

/-
  Contracts of package disk, the thirteenth part: moved.
-/
namespace Go.Proofs.YtbmalnllppamdaaGreatDoor
open Go.RowKit
set_option maxRecDepth 100000
set_option maxHeartbeats 1000000

def movedErr (d : Nds) (room : Int) (t : Int) (other name : ByteArray) : Int :=
  if entHas (nd d t).ents other = true then 0 else if putErr (nd d t).ents other ≠ 0 then putErr (nd d t).ents other else if room - used d < (other.size : Int) - name.size then 20 else 0

theorem MoveOk.mk' {d : Nds} {f t k : Int} {name other : ByteArray} (hI : DInv d) (f2 : (nd d f).kind = 2) (t2 : (nd d t).kind = 2) (hg : entGet (nd d f).ents name = some k) (hne : entGet (nd d t).ents other ≠ some k)
    (hp : entHas (nd d t).ents other = false → putErr (nd d t).ents other = 0) (top : (nd d k).kind = 2 → ¬ Above d k t) : MoveOk d f name t other k :=
  ⟨hI, f2, t2, hg, fun ⟨h1, h2⟩ => hne (by rw [← h1, ← h2]; exact hg), hp, top⟩

theorem okName_size {s : ByteArray} (h : okName s = true) : s.size ≤ 255 := by
  simp [okName] at h
  omega

section
variable {R : RD} {w : World} {a : Nat} {d : Nds} {room us : Int} {lk up : Int → Int} {f t k : Int} {name other : ByteArray}

theorem MoveOk.size_name (M : MoveOk d f name t other k) : name.size ≤ 255 := okName_size ((M.inv.node f).names _ (entGet_mem M.get))
theorem MoveOk.size_other (M : MoveOk d f name t other k) : other.size ≤ 255 := okName_size M.okOther

theorem MoveOk.len_mid (M : MoveOk d f name t other k) (hs : smallD d) (j : Int) : (nd (moveMid d t other k) j).ents.length < 4294967295 := by
  have h1 : ∀ i, (nd d i).ents.length ≤ 2147483648 := fun i => by
    by_cases hh : 0 ≤ i ∧ i.toNat < d.length
    · have h1 := sumBy_ge mass1 hh.1 hh.2
      unfold smallD Go.Proofs.YtbmalnllppamdaaGreatDoor.mass at hs
      unfold mass1 at hs h1
      omega
    · rw [nd_gone hh]; decide
  unfold moveMid
  rw [ents_setE M.ht]
  have := h1 t
  have := h1 j
  split
  · unfold movedAt
    cases hh : entHas (nd d t).ents other with
    | false => simp only [Bool.false_eq_true, if_false]; rw [len_put hh]; omega
    | true => simp only [if_true]; rw [len_set]; omega
  · omega

/-- What is left when the entry is in its new place. -/
def MovedEnd (R : RD) (w : World) (a : Nat) (d : Nds) (room : Int) (f : Int) (name : ByteArray) (t : Int) (other : ByteArray) (k : Int) (w2 : World) : Prop :=
  (∀ old, entGet (nd d t).ents other = some old → Calls Tryz.prog 199 #[.pointer (some ⟨a, 0, none⟩), .int .i64 old] w2 fun e w3 => e = .returned (.tuple #[]) ∧ DiskTo R w a (gc (moveTo d f name t other k)) room w3) ∧
  (entGet (nd d t).ents other = none → DiskTo R w a (gc (moveTo d f name t other k)) room w2)

theorem moved_end {R1 : RD} {w1 : World} {us1 : Int} (M : MoveOk d f name t other k) (hC : Casc R w a d room lk up zp) (hcl : NoGarb d) (hmax : room ≤ 9223372036854775807)
    (hR1 : Rep R1 w1 a (moveMid d t other k) room us1 lk up) (hT : Turn R w R1 w1) (hg : R1.g = R.g) (hus : us1 - name.size = used (moveTo d f name t other k)) (hfit : (used (moveTo d f name t other k) : Int) ≤ room) :
    w1.cell? ⟨a, 0, none⟩ = some (.map (some R1.b)) ∧ (Instr.lookup 179 (.map (some R1.b)) (.int .i64 f) false).run Tryz.prog w1 = .ok (.pointer (some ⟨R.g f, 0, none⟩)) w1 ∧
    Calls Tryz.prog 195 #[.pointer (some ⟨R.g f, 5, none⟩), .string name] w1 fun e w2 => e = .returned (.int .i64 0) ∧ w2.cell? ⟨a, 2, none⟩ = some (.int .i64 us1) ∧ w2.frozen? ⟨a, 2, none⟩ = false ∧
      w2.cell? ⟨R.g k, 0, none⟩ = some (.int .i64 (nd d k).kind) ∧ w2.cell? ⟨R.g k, 6, none⟩ = some (.int .i64 (up k)) ∧ w2.frozen? ⟨R.g k, 6, none⟩ = false ∧
      MovedEnd R w a d room f name t other k (if (nd d k).kind = 2 then (w2.setCell ⟨a, 2, none⟩ (.int .i64 (us1 - name.size))).setCell ⟨R.g k, 6, none⟩ (.int .i64 t) else w2.setCell ⟨a, 2, none⟩ (.int .i64 (us1 - name.size))) := by
  have hfm := M.hfm
  have hlk := hR1.look f
  unfold nodeV at hlk
  rw [if_pos hfm, hg] at hlk
  have hn := (hR1.node f hfm).dir
  rw [hg] at hn
  refine ⟨hR1.l, hlk, (drop_d w1 ⟨R.g f, 5, none⟩ (R1.ev f) _ name hn (M.len_mid hC.small f)).mono fun e w2 ⟨h4, h5⟩ => ?_⟩
  rw [show hasErr (nd (moveMid d t other k) f).ents name = 0 by unfold hasErr; rw [if_pos (entGet_has M.get_mid)]] at h4
  rw [← hg] at h5
  obtain ⟨R2, hR2, hT2, hg2, hb2⟩ := hR1.setDir hfm h5
  have hR2 : Rep R2 w2 a (moveTo d f name t other k) room us1 lk up := hR2
  have hk2 : has (moveTo d f name t other k) k := (M.has k).2 M.hk
  have hnk := hR2.node k hk2
  rw [hg2, hg] at hnk
  have hR3 := hR2.setUsed (us1 - name.size)
  have kk : Keeps R2.F w2 (w2.setCell ⟨a, 2, none⟩ (.int .i64 (us1 - name.size))) := (Keeps.refl R2.F w2).setCell (p := ⟨a, 2, none⟩) (.inl hR2.fA) _
  refine ⟨h4, hR2.used, hR2.fz 2, by rw [hnk.kind, M.kind], hnk.up, hnk.fz 6, ?_⟩
  have key : ∀ W, Rep R2 W a (moveTo d f name t other k) room (used (moveTo d f name t other k)) lk (if (nd d k).kind = 2 then setAt up k t else up) → Keeps R2.F w2 W → MovedEnd R w a d room f name t other k W := by
    intro W hRW hkW
    have hTW : Turn R w R2 W := (hT.trans hT2).trans (Turn.of hkW)
    obtain ⟨hC2, hno⟩ := M.casc hC hcl hRW
    refine ⟨fun old ho => ?_, fun ho => ?_⟩
    · have hpe : movePend d t other = onePend old := by unfold movePend; rw [ho]
      rw [hpe] at hC2 hno
      refine (less_ok _ R2 _ a (moveTo d f name t other k) room lk _ (onePend old) old rfl hC2 (onePend_pos old) hno).mono ?_
      rintro e w3 ⟨rfl, R', d', lk', up', h1, h2, h3, h4⟩
      rw [decAt_onePend] at h1 h2
      exact ⟨rfl, R', free_end h1 h2 h3 hfit hmax, hTW.trans h4⟩
    · have hpe : movePend d t other = zp := by unfold movePend; rw [ho]
      rw [hpe] at hC2 hno
      exact ⟨R2, free_end hC2 hno (Kills.refl _) hfit hmax, hTW⟩
  have e1 : (used (moveTo d f name t other k) : Int) = us1 - name.size := hus.symm
  by_cases hkk : (nd d k).kind = 2
  · rw [if_pos hkk]
    rw [← hg, ← hg2]
    have hR4 := hR3.setUp hk2 t
    refine key _ ?_ (kk.setCell (.inl (hR3.fN hk2)) _)
    rw [if_pos hkk, e1]
    exact hR4
  · rw [if_neg hkk]
    refine key _ ?_ kk
    rw [if_neg hkk, e1]
    exact hR3

/-- In another's place. -/
theorem moved_set {old : Int} {w1 : World} (M : MoveOk d f name t other k) (hC : Casc R w a d room lk up zp) (hcl : NoGarb d) (hfit : (used d : Int) ≤ room) (hmax : room ≤ 9223372036854775807) (ho : entGet (nd d t).ents other = some old)
    (ht : DTo w w1 ⟨R.g t, 5, none⟩ (R.ev t) (entSet (nd d t).ents other k)) :
    ∃ R1 : RD, R1.b = R.b ∧ w1.cell? ⟨a, 0, none⟩ = some (.map (some R1.b)) ∧ (Instr.lookup 179 (.map (some R1.b)) (.int .i64 f) false).run Tryz.prog w1 = .ok (.pointer (some ⟨R.g f, 0, none⟩)) w1 ∧
    Calls Tryz.prog 195 #[.pointer (some ⟨R.g f, 5, none⟩), .string name] w1 fun e w2 => e = .returned (.int .i64 0) ∧ w2.cell? ⟨a, 2, none⟩ = some (.int .i64 (used d)) ∧ w2.frozen? ⟨a, 2, none⟩ = false ∧
      w2.cell? ⟨R.g k, 0, none⟩ = some (.int .i64 (nd d k).kind) ∧ w2.cell? ⟨R.g k, 6, none⟩ = some (.int .i64 (up k)) ∧ w2.frozen? ⟨R.g k, 6, none⟩ = false ∧
      MovedEnd R w a d room f name t other k (if (nd d k).kind = 2 then (w2.setCell ⟨a, 2, none⟩ (.int .i64 ((used d : Int) - name.size))).setCell ⟨R.g k, 6, none⟩ (.int .i64 t) else w2.setCell ⟨a, 2, none⟩ (.int .i64 ((used d : Int) - name.size))) := by
  have e : entSet (nd d t).ents other k = movedAt d t other k := by unfold movedAt; rw [if_pos (entGet_has ho)]
  rw [e] at ht
  obtain ⟨R1, hR1, hT1, hg1, hb1⟩ := hC.rep.setDir M.ht ht
  have hR1 : Rep R1 w1 a (moveMid d t other k) room (used d) lk up := hR1
  have hu := M.used
  rw [if_pos (entGet_has ho)] at hu
  exact ⟨R1, hb1, moved_end M hC hcl hmax hR1 hT1 hg1 (by omega) (by omega)⟩

/-- A new name, and there is room. -/
theorem moved_put {w1 : World} (M : MoveOk d f name t other k) (hC : Casc R w a d room lk up zp) (hcl : NoGarb d) (hfit : (used d : Int) ≤ room) (hmax : room ≤ 9223372036854775807) (ho : entGet (nd d t).ents other = none)
    (hroom : (other.size : Int) - name.size ≤ room - used d) (ht : DTo w w1 ⟨R.g t, 5, none⟩ (R.ev t) (putTo (nd d t).ents other k)) :
    Calls Tryz.prog 178 #[.pointer (some ⟨a, 0, none⟩), .int .i64 ((other.size : Int) - name.size)] w1 fun e w2 => e = .returned (.bool true) ∧ w2.cell? ⟨a, 2, none⟩ = some (.int .i64 ((used d : Int) + ((other.size : Int) - name.size))) ∧ w2.frozen? ⟨a, 2, none⟩ = false ∧
    ∃ b : Nat, ∃ W : World, W = w2.setCell ⟨a, 2, none⟩ (.int .i64 ((used d : Int) + other.size)) ∧ W.cell? ⟨a, 0, none⟩ = some (.map (some b)) ∧ (Instr.lookup 179 (.map (some b)) (.int .i64 f) false).run Tryz.prog W = .ok (.pointer (some ⟨R.g f, 0, none⟩)) W ∧
    Calls Tryz.prog 195 #[.pointer (some ⟨R.g f, 5, none⟩), .string name] W fun e w2 => e = .returned (.int .i64 0) ∧ w2.cell? ⟨a, 2, none⟩ = some (.int .i64 ((used d : Int) + other.size)) ∧ w2.frozen? ⟨a, 2, none⟩ = false ∧
      w2.cell? ⟨R.g k, 0, none⟩ = some (.int .i64 (nd d k).kind) ∧ w2.cell? ⟨R.g k, 6, none⟩ = some (.int .i64 (up k)) ∧ w2.frozen? ⟨R.g k, 6, none⟩ = false ∧
      MovedEnd R w a d room f name t other k (if (nd d k).kind = 2 then (w2.setCell ⟨a, 2, none⟩ (.int .i64 ((used d : Int) + other.size - name.size))).setCell ⟨R.g k, 6, none⟩ (.int .i64 t) else w2.setCell ⟨a, 2, none⟩ (.int .i64 ((used d : Int) + other.size - name.size))) := by
  have hh : entHas (nd d t).ents other = false := by rw [← entGet_isSome, ho]; rfl
  have hp := M.put hh
  have e : putTo (nd d t).ents other k = movedAt d t other k := by unfold movedAt putTo; rw [if_pos hp, hh]; simp
  rw [e] at ht
  obtain ⟨R1, hR1, hT1, hg1, hb1⟩ := hC.rep.setDir M.ht ht
  have hR1 : Rep R1 w1 a (moveMid d t other k) room (used d) lk up := hR1
  have hu := M.used
  rw [hh] at hu
  simp only [Bool.false_eq_true, if_false] at hu
  have hs1 := M.size_name
  have hs2 := M.size_other
  refine (take_any hR1 ((other.size : Int) - name.size) (by omega) (by omega) hmax (by omega) (by omega)).mono fun e w2 ⟨h1, h2, h3⟩ => ?_
  rw [show (decide ((other.size : Int) - name.size ≤ room - used d)) = true from decide_eq_true (by omega)] at h1
  rw [show takeU room (used d) ((other.size : Int) - name.size) = used d + ((other.size : Int) - name.size) from if_pos (by omega)] at h2
  have hT2 := hR1.turnA hT1 h3
  have hR3 := h2.setUsed ((used d : Int) + other.size)
  have hT3 : Turn R w R1 (w2.setCell ⟨a, 2, none⟩ (.int .i64 ((used d : Int) + other.size))) := hT2.trans (Turn.of ((Keeps.refl R1.F w2).setCell (p := ⟨a, 2, none⟩) (.inl h2.fA) _))
  obtain ⟨f1, f2, f3⟩ := moved_end M hC hcl hmax hR3 hT3 hg1 (by omega) (by omega)
  exact ⟨h1, h2.used, h2.fz 2, R1.b, _, rfl, f1, f2, f3⟩

/-- A new name, and there is no room. -/
theorem moved_back {i k : Int} {name : ByteArray} {w1 : World} {n : Int} (hC : Casc R w a d room lk up zp) (hcl : NoGarb d) (hfit0 : (used d : Int) ≤ room) (hmax : room ≤ 9223372036854775807) (hi : (nd d i).kind = 2)
    (hp : putErr (nd d i).ents name = 0) (hfit : room - used d < n) (hn1 : n ≤ 4611686018427387904) (ht : DTo w w1 ⟨R.g i, 5, none⟩ (R.ev i) (putTo (nd d i).ents name k)) :
    Calls Tryz.prog 178 #[.pointer (some ⟨a, 0, none⟩), .int .i64 n] w1 fun e w2 => e = .returned (.bool false) ∧
      Calls Tryz.prog 195 #[.pointer (some ⟨R.g i, 5, none⟩), .string name] w2 fun e w3 => e = .returned (.int .i64 0) ∧ DiskTo R w a d room w3 := by
  have hh := setE_pos hC.inv hi
  obtain ⟨hok, hhas⟩ := putErr_zero.1 hp
  rw [show putTo (nd d i).ents name k = entPut (nd d i).ents name k from if_pos hp] at ht
  obtain ⟨R1, hR1, hT1, hg1, hb1⟩ := hC.rep.setDir hh ht
  have hR1 : Rep R1 w1 a (enterTo d i name k) room (used d) lk up := hR1
  have hul := used_le2 hC.inv hC.small
  refine (take_any hR1 n (by omega) (by omega) hmax (by omega) (by omega)).mono fun e w2 ⟨h1, h2, h3⟩ => ?_
  rw [show (decide (n ≤ room - used d)) = false from decide_eq_false (by omega)] at h1
  rw [show takeU room (used d) n = used d from if_neg (by omega)] at h2
  have hi1 : has (enterTo d i name k) i := (has_setE hh _ i).2 hh
  have hents : (nd (enterTo d i name k) i).ents = entPut (nd d i).ents name k := by unfold enterTo; rw [ents_setE hh, if_pos rfl]
  have hn := (h2.node i hi1).dir
  have hlen := nd_ents_len hC.small i
  have hl2 := len_put (k := k) hhas
  rw [hg1, hents] at hn
  have hlen2 : (nd d i).ents.length ≤ 2147483648 := by
    have h1 := sumBy_ge mass1 (has_range hh).1 (has_range hh).2
    have := hC.small
    unfold smallD mass at this
    unfold mass1 at h1
    unfold mass1 at this
    omega
  refine ⟨h1, (drop_d w2 ⟨R.g i, 5, none⟩ (R1.ev i) _ name hn (by omega)).mono fun e w3 ⟨h4, h5⟩ => ?_⟩
  have hput : entHas (entPut (nd d i).ents name k) name = true := by rw [entHas_put hhas]; simp
  rw [show hasErr (entPut (nd d i).ents name k) name = 0 by unfold hasErr; rw [if_pos hput]] at h4
  rw [entDel_put (hC.inv.node i).rising hhas] at h5
  rw [← hg1] at h5
  obtain ⟨R3, hR3, hT3, _, _⟩ := h2.setDir hi1 h5
  have hd : upd (enterTo d i name k) i ((nd (enterTo d i name k) i).setEnts (nd d i).ents) = d := by
    show setE (setE d i (entPut (nd d i).ents name k)) i (nd d i).ents = d
    rw [setE_setE hh, setE_self hh]
  rw [hd] at hR3
  exact ⟨h4, R3, ⟨⟨lk, up, hC.re hR3⟩, hcl, hfit0, hmax⟩, (hR1.turnA hT1 h3).trans hT3⟩

noncomputable def movedTo (d : Nds) (room : Int) (f : Int) (name : ByteArray) (t : Int) (other : ByteArray) (k : Int) : Nds := if movedErr d room t other name = 0 then gc (moveTo d f name t other k) else d

theorem moved_any (h : IsDisk R w a d room) (f : Int) (name : ByteArray) (t : Int) (other : ByteArray) (k : Int) (h0 : lookErr d f name = 0) (hkk : lookOf d f name = k) (ht0 : folderErr d t = 0) (htop : (nd d k).kind = 2 → ¬ Above d k t) (hne : entGet (nd d t).ents other ≠ some k) (hos : other.size ≤ 4294967296) :
    Calls Tryz.prog 207 #[.pointer (some ⟨a, 0, none⟩), .int .i64 f, .string name, .int .i64 t, .string other] w fun e w' => e = .returned (.int .i64 (movedErr d room t other name)) ∧ DiskTo R w a (movedTo d room f name t other k) room w' := by
  obtain ⟨⟨lk, up, hC⟩, hcl, hfit, hmax⟩ := h
  have hlen := nd_ents_len hC.small
  have hl0 := look_any hC.rep f name (hlen f)
  rw [h0, hkk] at hl0
  obtain ⟨f0, hget⟩ := lookErr_zero h0
  rw [hkk] at hget
  obtain ⟨hf, hf2⟩ := folderErr_zero f0
  obtain ⟨ht, ht2⟩ := folderErr_zero ht0
  have hk : has d k := (hC.inv.tgt f _ (entGet_mem hget)).1
  have hul := used_le2 hC.inv hC.small
  have HL := Lib.hid (fun (w1 : World) (hk1 : Keeps NoB w w1) => (⟨(hC.rep.keepN hk1).l, (hC.rep.keepN hk1).look k, (hC.rep.keepN hk1).look t⟩ : _ ∧ _ ∧ _))
  unfold nodeV at HL
  rw [if_pos hk, if_pos ht] at HL
  have hgetT := Lib.hid (fun (w1 : World) (hk1 : Keeps NoB w w1) => get_any (fun _ => True) w1 ⟨R.g t, 5, none⟩ (R.ev t) (nd d t).ents other (((hC.rep.keepN hk1).node t ht).dir.any (fun _ _ => trivial)) (by have := hlen t; omega))
  have hput := Lib.hid (fun (w1 : World) (hk1 : Keeps NoB w w1) => put_d w1 ⟨R.g t, 5, none⟩ (R.ev t) (nd d t).ents other k ((hC.rep.keepN hk1).node t ht).dir (by have := hlen t; omega))
  have hset := Lib.hid (fun (w1 : World) (hk1 : Keeps NoB w w1) => set_d w1 ⟨R.g t, 5, none⟩ (R.ev t) (nd d t).ents other k ((hC.rep.keepN hk1).node t ht).dir (by have := hlen t; omega))
  unfold movedTo
  cases ho : entGet (nd d t).ents other with
  | some old =>
    have hh := entGet_has ho
    have e : movedErr d room t other name = 0 := if_pos hh
    rw [e, if_pos rfl]
    have M : MoveOk d f name t other k := MoveOk.mk' hC.inv hf2 ht2 hget hne (fun h => by rw [hh] at h; cases h) htop
    have hs1 := M.size_name
    have hu := M.used
    rw [if_pos hh] at hu
    have hwr : wrap64 ((used d : Int) - name.size) = (used d : Int) - name.size := IntWalk.wrap64_in _ (by omega)
    have HP := Lib.hid (fun (w1 w2 : World) (hk1 : Keeps NoB w w1) => moved_set (w := w1) (w1 := w2) M (hC.keep hk1 (fun _ _ h => h.elim)) hcl hfit hmax ho)
    have hhas : hasErr (nd d t).ents other = 0 := by unfold hasErr; rw [if_pos hh]
    rw [hhas] at hset
    rw [ho] at hgetT
    have HO := Lib.hid ho
    clear hC hcl hfit hmax e hul hlen M hs1 hu hhas hh hne htop hget ho h0 hkk ht0 f0 hf hf2 ht ht2 hk
    generalize (used d : Int) = us at *
    have hkd : ((nd d k).kind = 2) ∨ ((nd d k).kind ≠ 2) := Classical.em _
    rcases hkd with hkd | hkd
    case' inl => simp only [hkd, if_true] at HP; clear hkd
    case' inr => simp only [hkd, if_false] at HP; generalize (nd d k).kind = kd at *
    all_goals
      go_enter Tryz.func207, Tryz.ntmps207
      go_wp2_with (first | (go_at_call 198; refine hl0.mono ?_; rintro e w1 ⟨rfl, hk1⟩; obtain ⟨l1, l2, l3⟩ := HL.out w1 hk1; have q2 := fun (n : Nat) => (HL.out (w1.drewN n) (hk1.drewN n)).2.1; have q3 := fun (n : Nat) => (HL.out (w1.drewN n) (hk1.drewN n)).2.2) | (go_quiet (fail)) | (go_at_call 204; refine (hgetT.out _ (hk1.drewN _)).mono ?_; rintro e w2 ⟨rfl, hk2⟩; replace hk2 := (hk1.drewN _).trans hk2) | (go_at_call 251; refine (hset.out _ hk2).mono ?_; rintro e w3 ⟨rfl, ht3⟩; obtain ⟨R1, -, m1, m2, hdr⟩ := HP.out _ _ hk2 ht3; have HDr := Lib.hid hdr; clear hdr) | (go_at_call 195; refine HDr.out.mono ?_; rintro e w4 ⟨rfl, n1, n2, n3, n4, n5, hend⟩; have HEn := Lib.hid (hend.1 _ HO.out); clear hend) | (go_at_call 199; refine HEn.out.mono ?_; rintro e w5 ⟨rfl, hend⟩))
      go_ret
      exact ⟨rfl, hend.after hk2⟩
  | none =>
    have hh : entHas (nd d t).ents other = false := by rw [← entGet_isSome, ho]; rfl
    have hnh : ¬ (entHas (nd d t).ents other = true) := by rw [hh]; decide
    rw [ho] at hgetT
    have hE0 : ∀ (P : Int → Prop), P (if putErr (nd d t).ents other ≠ 0 then putErr (nd d t).ents other else if room - used d < (other.size : Int) - name.size then 20 else 0) → P (movedErr d room t other name) := fun P hP => by
      unfold movedErr; rw [if_neg hnh]; exact hP
    have hns : name.size ≤ 255 := okName_size ((hC.inv.node f).names _ (entGet_mem hget))
    have hwd : wrap64 ((other.size : Int) - name.size) = (other.size : Int) - name.size := IntWalk.wrap64_in _ (by omega)
    by_cases d3 : putErr (nd d t).ents other = 0
    case neg =>
      have e : movedErr d room t other name = putErr (nd d t).ents other := hE0 (fun x => x = putErr (nd d t).ents other) (if_pos d3)
      rw [e, if_neg d3]
      have HP := Lib.hid (fun (w1 w2 : World) (hk1 : Keeps NoB w w1) => enter_same (w := w1) (w1 := w2) (k := k) (hC.keep hk1 (fun _ _ h => h.elim)) hcl hfit hmax ht2 d3)
      clear hC hcl hfit hmax e hul hlen hh hnh hE0 hns hwd hne htop hget ho h0 hkk ht0 f0 hf hf2 ht ht2 hk hset
      generalize putErr (nd d t).ents other = pe at *
      go_enter Tryz.func207, Tryz.ntmps207
      go_wp2_with (first | (go_at_call 198; refine hl0.mono ?_; rintro e w1 ⟨rfl, hk1⟩; obtain ⟨l1, l2, l3⟩ := HL.out w1 hk1; have q2 := fun (n : Nat) => (HL.out (w1.drewN n) (hk1.drewN n)).2.1; have q3 := fun (n : Nat) => (HL.out (w1.drewN n) (hk1.drewN n)).2.2) | (go_quiet (fail)) | (go_at_call 204; refine (hgetT.out _ (hk1.drewN _)).mono ?_; rintro e w2 ⟨rfl, hk2⟩; replace hk2 := (hk1.drewN _).trans hk2) | (go_at_call 194; refine (hput.out _ hk2).mono ?_; rintro e w3 ⟨rfl, ht3⟩; have hend := HP.out _ _ hk2 ht3))
      go_ret
      exact ⟨rfl, hend.after hk2⟩
    case pos =>
    have hE1 : ∀ (P : Int → Prop), P (if room - used d < (other.size : Int) - name.size then 20 else 0) → P (movedErr d room t other name) := fun P hP => hE0 P (by rw [if_neg (by simpa using d3)]; exact hP)
    rw [d3] at hput
    by_cases d4 : room - used d < (other.size : Int) - name.size
    · have e : movedErr d room t other name = 20 := hE1 (fun x => x = 20) (if_pos d4)
      rw [e, if_neg (by decide)]
      have HP := Lib.hid (fun (w1 w2 : World) (hk1 : Keeps NoB w w1) => moved_back (w := w1) (w1 := w2) (k := k) (n := (other.size : Int) - name.size) (hC.keep hk1 (fun _ _ h => h.elim)) hcl hfit hmax ht2 d3 d4 (by omega))
      clear hC hcl hfit hmax e hul hlen hh hnh hE0 hE1 hns hne htop hget ho h0 hkk ht0 f0 hf hf2 ht ht2 hk hset d3 d4
      go_enter Tryz.func207, Tryz.ntmps207
      go_wp2_with (first | (go_at_call 198; refine hl0.mono ?_; rintro e w1 ⟨rfl, hk1⟩; obtain ⟨l1, l2, l3⟩ := HL.out w1 hk1; have q2 := fun (n : Nat) => (HL.out (w1.drewN n) (hk1.drewN n)).2.1; have q3 := fun (n : Nat) => (HL.out (w1.drewN n) (hk1.drewN n)).2.2) | (go_quiet (fail)) | (go_at_call 204; refine (hgetT.out _ (hk1.drewN _)).mono ?_; rintro e w2 ⟨rfl, hk2⟩; replace hk2 := (hk1.drewN _).trans hk2) | (go_at_call 194; refine (hput.out _ hk2).mono ?_; rintro e w3 ⟨rfl, ht3⟩) | (go_at_call 178; refine (HP.out _ _ hk2 ht3).mono ?_; rintro e w4 ⟨rfl, hdr⟩) | (go_at_call 195; refine hdr.mono ?_; rintro e w5 ⟨rfl, hend⟩))
      go_ret
      exact ⟨rfl, hend.after hk2⟩
    · have e : movedErr d room t other name = 0 := hE1 (fun x => x = 0) (if_neg d4)
      rw [e, if_pos rfl]
      have M : MoveOk d f name t other k := MoveOk.mk' hC.inv hf2 ht2 hget hne (fun _ => d3) htop
      have hs1 := M.size_name
      have hs2 := M.size_other
      have hwr : wrap64 ((used d : Int) + other.size - name.size) = (used d : Int) + other.size - name.size := IntWalk.wrap64_in _ (by omega)
      have hwa : wrap64 ((used d : Int) + ((other.size : Int) - name.size) + name.size) = (used d : Int) + other.size := by rw [IntWalk.wrap64_in _ (by omega)]; omega
      have HP := Lib.hid (fun (w1 w2 : World) (hk1 : Keeps NoB w w1) => moved_put (w := w1) (w1 := w2) M (hC.keep hk1 (fun _ _ h => h.elim)) hcl hfit hmax ho (by omega))
      have HO := Lib.hid ho
      clear hC hcl hfit hmax e hul hlen hh hnh hE0 hE1 hns hne htop hget ho h0 hkk ht0 f0 hf hf2 ht ht2 hk hset d3 d4 M hs1 hs2
      generalize (used d : Int) = us at *
      have hkd : ((nd d k).kind = 2) ∨ ((nd d k).kind ≠ 2) := Classical.em _
      rcases hkd with hkd | hkd
      case' inl => simp only [hkd, if_true] at HP; clear hkd
      case' inr => simp only [hkd, if_false] at HP; generalize (nd d k).kind = kd at *
      all_goals
        go_enter Tryz.func207, Tryz.ntmps207
        go_wp2_with (first | (go_at_call 198; refine hl0.mono ?_; rintro e w1 ⟨rfl, hk1⟩; obtain ⟨l1, l2, l3⟩ := HL.out w1 hk1; have q2 := fun (n : Nat) => (HL.out (w1.drewN n) (hk1.drewN n)).2.1; have q3 := fun (n : Nat) => (HL.out (w1.drewN n) (hk1.drewN n)).2.2) | (go_quiet (fail)) | (go_at_call 204; refine (hgetT.out _ (hk1.drewN _)).mono ?_; rintro e w2 ⟨rfl, hk2⟩; replace hk2 := (hk1.drewN _).trans hk2) | (go_at_call 194; refine (hput.out _ hk2).mono ?_; rintro e w3 ⟨rfl, ht3⟩) | (go_at_call 178; refine (HP.out _ _ hk2 ht3).mono ?_; rintro e w4 ⟨rfl, u1, u2, b, W, hW, m1, m2, hdr⟩; have HDr := Lib.hid hdr; clear hdr; subst hW) | (go_at_call 195; refine HDr.out.mono ?_; rintro e w5 ⟨rfl, n1, n2, n3, n4, n5, hend⟩; have HEn := Lib.hid (hend.2 HO.out); clear hend))
        go_ret
        exact ⟨rfl, HEn.out.after hk2⟩

end

end Go.Proofs.YtbmalnllppamdaaGreatDoor

/-
  Contracts of package disk, the fourteenth part: Move.
-/
namespace Go.Proofs.YtbmalnllppamdaaGreatDoor
open Go.RowKit
set_option maxRecDepth 100000
set_option maxHeartbeats 1000000

/-- The error, when the name's node is found and the place is a directory. -/
def moveErr2 (d : Nds) (room : Int) (t : Int) (other name : ByteArray) (k : Int) : Int :=
  match entGet (nd d t).ents other with
  | some old => if old = k then 0 else givesErr d k old
  | none => movedErr d room t other name

open Classical in
noncomputable def moveErr (d : Nds) (room : Int) (f : Int) (name : ByteArray) (t : Int) (other : ByteArray) : Int :=
  if lookErr d f name ≠ 0 then lookErr d f name else if folderErr d t ≠ 0 then folderErr d t
  else if (nd d (lookOf d f name)).kind = 2 ∧ Above d (lookOf d f name) t then 23 else moveErr2 d room t other name (lookOf d f name)

noncomputable def moveD (d : Nds) (room : Int) (f : Int) (name : ByteArray) (t : Int) (other : ByteArray) : Nds :=
  if moveErr d room f name t other = 0 ∧ entGet (nd d t).ents other ≠ some (lookOf d f name) then gc (moveTo d f name t other (lookOf d f name)) else d

section
variable {R : RD} {w : World} {a : Nat} {d : Nds} {room : Int}

theorem moveErr_look {f t : Int} {name other : ByteArray} (h : lookErr d f name ≠ 0) : moveErr d room f name t other = lookErr d f name := by unfold moveErr; rw [if_pos h]
theorem moveErr_fold {f t : Int} {name other : ByteArray} (h : lookErr d f name = 0) (h2 : folderErr d t ≠ 0) : moveErr d room f name t other = folderErr d t := by
  unfold moveErr; rw [if_neg (by simpa using h), if_pos h2]
theorem moveErr_busy {f t : Int} {name other : ByteArray} (h : lookErr d f name = 0) (h2 : folderErr d t = 0) (h3 : (nd d (lookOf d f name)).kind = 2 ∧ Above d (lookOf d f name) t) : moveErr d room f name t other = 23 := by
  unfold moveErr; rw [if_neg (by simpa using h), if_neg (by simpa using h2), if_pos h3]
theorem moveErr_two {f t : Int} {name other : ByteArray} (h : lookErr d f name = 0) (h2 : folderErr d t = 0) (h3 : ¬ ((nd d (lookOf d f name)).kind = 2 ∧ Above d (lookOf d f name) t)) : moveErr d room f name t other = moveErr2 d room t other name (lookOf d f name) := by
  unfold moveErr; rw [if_neg (by simpa using h), if_neg (by simpa using h2), if_neg h3]
theorem moveD_err {f t : Int} {name other : ByteArray} (h : moveErr d room f name t other ≠ 0) : moveD d room f name t other = d := by unfold moveD; rw [if_neg (fun e => h e.1)]

theorem moveD_any (h : IsDisk R w a d room) (f : Int) (name : ByteArray) (t : Int) (other : ByteArray) (hos : other.size ≤ 4294967296) :
    Calls Tryz.prog 144 #[.pointer (some ⟨a, 0, none⟩), .int .i64 f, .string name, .int .i64 t, .string other] w fun e w' => e = .returned (.int .i64 (moveErr d room f name t other)) ∧ DiskTo R w a (moveD d room f name t other) room w' := by
  have H := Lib.hid h
  obtain ⟨⟨lk, up, hC⟩, hcl, hfit, hmax⟩ := h
  have hlen := nd_ents_len hC.small
  have hl0 := look_any hC.rep f name (hlen f)
  by_cases c0 : lookErr d f name = 0
  case neg =>
    rw [moveD_err (by rw [moveErr_look c0]; exact c0), moveErr_look c0]
    clear hC hcl hfit hmax
    generalize lookErr d f name = er at *
    generalize lookOf d f name = k at *
    go_enter Tryz.func144, Tryz.ntmps144
    go_wp2_with (go_at_call 198; refine hl0.mono ?_; rintro e w1 ⟨rfl, hk⟩)
    go_ret
    exact ⟨rfl, H.out.same hk⟩
  case pos =>
  obtain ⟨f0, hget⟩ := lookErr_zero c0
  obtain ⟨hf, hf2⟩ := folderErr_zero f0
  have hk := (hC.inv.tgt f _ (entGet_mem hget)).1
  have hk1 := (hC.inv.tgt f _ (entGet_mem hget)).2
  have hF := Lib.hid (fun (w1 : World) (hk1 : Keeps NoB w w1) => folder_any (hC.rep.keepN hk1) t)
  rw [c0] at hl0
  by_cases c1 : folderErr d t = 0
  case neg =>
    rw [moveD_err (by rw [moveErr_fold c0 c1]; exact c1), moveErr_fold c0 c1]
    have hp : ptrIf R (folderErr d t) t = .pointer none := if_neg c1
    rw [hp] at hF
    clear hC hcl hfit hmax
    generalize folderErr d t = er at *
    generalize lookOf d f name = k at *
    go_enter Tryz.func144, Tryz.ntmps144
    go_wp2_with (first | (go_at_call 198; refine hl0.mono ?_; rintro e w1 ⟨rfl, hk⟩) | (go_at_call 153; refine (hF.out _ hk).mono ?_; rintro e w2 ⟨rfl, rfl⟩))
    go_ret
    exact ⟨rfl, H.out.same hk⟩
  case pos =>
  obtain ⟨ht, ht2⟩ := folderErr_zero c1
  rw [c1] at hF
  have hp : ptrIf R 0 t = .pointer (some ⟨R.g t, 0, none⟩) := rfl
  rw [hp] at hF
  have HL := Lib.hid (fun (w1 : World) (hk1 : Keeps NoB w w1) => (⟨(hC.rep.keepN hk1).l, (hC.rep.keepN hk1).look (lookOf d f name), ((hC.rep.keepN hk1).node _ hk).kind⟩ : _ ∧ _ ∧ _))
  unfold nodeV at HL
  rw [if_pos hk] at HL
  have hG := Lib.hid (fun (w1 : World) (hk1 : Keeps NoB w w1) => get_any (fun _ => True) w1 ⟨R.g t, 5, none⟩ (R.ev t) (nd d t).ents other (((hC.rep.keepN hk1).node t ht).dir.any (fun _ _ => trivial)) (by have := hlen t; omega))
  have hB := Lib.hid (fun (w1 : World) (hkx : Keeps NoB w w1) => below_any (hC.keep hkx (fun _ _ h => h.elim)) rfl t (lookOf d f name) ht2 hk hk1)
  by_cases c2 : (nd d (lookOf d f name)).kind = 2 ∧ Above d (lookOf d f name) t
  · rw [moveD_err (by rw [moveErr_busy c0 c1 c2]; decide), moveErr_busy c0 c1 c2]
    have hB2 : Hid (∀ (w1 : World), Keeps NoB w w1 → Calls Tryz.prog 205 #[.pointer (some ⟨a, 0, none⟩), .int .i64 t, .int .i64 (lookOf d f name)] w1 fun e w' => e = .returned (.bool true) ∧ w1 = w') := fun w1 hkx => by
      refine (hB.out w1 hkx).mono ?_
      rintro e w' ⟨b, rfl, hb, rfl⟩
      rw [hb.2 c2.2]
      exact ⟨rfl, rfl⟩
    rw [c2.1] at HL
    clear hC hcl hfit hmax hB hget c0 f0 hk hk1 c2
    generalize lookOf d f name = k at *
    generalize entGet (nd d t).ents other = og at *
    cases og
    all_goals
      go_enter Tryz.func144, Tryz.ntmps144
      go_wp2_with (first | (go_at_call 198; refine hl0.mono ?_; rintro e w1 ⟨rfl, hk1⟩; obtain ⟨l1, l2, l3⟩ := HL.out w1 hk1) | (go_at_call 153; refine (hF.out _ hk1).mono ?_; rintro e w2 ⟨rfl, rfl⟩) | (go_at_call 204; refine (hG.out _ hk1).mono ?_; rintro e w2 ⟨rfl, hk2⟩; replace hk2 := hk1.trans hk2; obtain ⟨m1, m2, m3⟩ := HL.out w2 hk2) | (go_at_call 205; refine (hB2.out _ hk2).mono ?_; rintro e w3 ⟨rfl, rfl⟩))
      go_ret
      exact ⟨rfl, H.out.same hk2⟩
  · have hB2 : Hid ((nd d (lookOf d f name)).kind = 2 → ∀ (w1 : World), Keeps NoB w w1 → Calls Tryz.prog 205 #[.pointer (some ⟨a, 0, none⟩), .int .i64 t, .int .i64 (lookOf d f name)] w1 fun e w' => e = .returned (.bool false) ∧ w1 = w') := fun h2 w1 hkx => by
      refine (hB.out w1 hkx).mono ?_
      rintro e w' ⟨b, rfl, hb, rfl⟩
      cases b with
      | false => exact ⟨rfl, rfl⟩
      | true => exact absurd ⟨h2, hb.1 rfl⟩ c2
    have e2 := moveErr_two (room := room) (other := other) c0 c1 c2
    have htop : (nd d (lookOf d f name)).kind = 2 → ¬ Above d (lookOf d f name) t := fun h2 ha => c2 ⟨h2, ha⟩
    have hLO := Lib.hid (fun (w1 : World) (hk1 : Keeps NoB w w1) (o : Int) => (hC.rep.keepN hk1).look o)
    have hGI := Lib.hid (fun (w1 : World) (hk1 : Keeps NoB w w1) (o : Int) (ho : has d o) => gives_any (hC.rep.keepN hk1) hC.inv (lookOf d f name) o hk ho)
    have hMV := Lib.hid (fun (w1 : World) (hk1 : Keeps NoB w w1) (hne : entGet (nd d t).ents other ≠ some (lookOf d f name)) => moved_any (H.out.keepN hk1) f name t other (lookOf d f name) c0 rfl c1 htop hne hos)
    have hD : moveD d room f name t other = if moveErr2 d room t other name (lookOf d f name) = 0 ∧ entGet (nd d t).ents other ≠ some (lookOf d f name) then gc (moveTo d f name t other (lookOf d f name)) else d := by unfold moveD; rw [e2]
    rw [hD, e2]
    have hkd : ((nd d (lookOf d f name)).kind = 2) ∨ ((nd d (lookOf d f name)).kind == 2) = false := by
      by_cases h : (nd d (lookOf d f name)).kind = 2
      · exact .inl h
      · exact .inr (by simpa using h)
    cases ho : entGet (nd d t).ents other with
    | none =>
      rw [ho] at hG hMV
      replace hMV := Lib.hid (fun (w1 : World) (hk1 : Keeps NoB w w1) => hMV.out w1 hk1 (fun h => by cases h))
      unfold movedTo at hMV
      have hE : moveErr2 d room t other name (lookOf d f name) = movedErr d room t other name := by unfold moveErr2; rw [ho]
      simp only [hE, ne_eq, reduceCtorEq, not_false_eq_true, and_true]
      clear hE
      clear hC hcl hfit hmax hB hget c0 f0 hk hk1 c2 hD e2 htop hGI hLO hf2 ht2 ho hf hlen
      generalize movedErr d room t other name = me at *
      generalize (if me = 0 then gc (moveTo d f name t other (lookOf d f name)) else d) = d2 at *
      generalize lookOf d f name = k at *
      rcases hkd with hkd | hkd
      case' inl => rw [hkd] at HL; replace hB2 := Lib.hid (hB2.out hkd); clear hkd
      case' inr => clear hB2; generalize (nd d k).kind = kd at *
      all_goals
        go_enter Tryz.func144, Tryz.ntmps144
        go_wp2_with (first | (go_at_call 198; refine hl0.mono ?_; rintro e w1 ⟨rfl, hk1⟩; obtain ⟨l1, l2, l3⟩ := HL.out w1 hk1) | (go_at_call 153; refine (hF.out _ hk1).mono ?_; rintro e w2 ⟨rfl, rfl⟩) | (go_at_call 204; refine (hG.out _ hk1).mono ?_; rintro e w2 ⟨rfl, hk2⟩; replace hk2 := hk1.trans hk2; obtain ⟨m1, m2, m3⟩ := HL.out w2 hk2) | (go_at_call 205; refine (hB2.out _ hk2).mono ?_; rintro e w3 ⟨rfl, rfl⟩) | (go_at_call 207; refine (hMV.out _ hk2).mono ?_; rintro e w3 ⟨rfl, hend⟩))
        go_ret
        exact ⟨rfl, hend.after hk2⟩
    | some old =>
      have hold := (hC.inv.tgt t _ (entGet_mem ho)).1
      rw [ho] at hG hMV
      by_cases c3 : old = lookOf d f name
      · subst c3
        have hE : moveErr2 d room t other name (lookOf d f name) = 0 := by unfold moveErr2; rw [ho]; exact if_pos rfl
        simp only [hE, ne_eq, not_true_eq_false, and_false, if_false]
        clear hE
        clear hC hcl hfit hmax hB hget c0 f0 hk hk1 c2 hD e2 htop hGI hLO hf2 ht2 ho hf hlen hMV hold
        generalize lookOf d f name = k at *
        rcases hkd with hkd | hkd
        case' inl => rw [hkd] at HL; replace hB2 := Lib.hid (hB2.out hkd); clear hkd
        case' inr => clear hB2; generalize (nd d k).kind = kd at *
        all_goals
          go_enter Tryz.func144, Tryz.ntmps144
          go_wp2_with (first | (go_at_call 198; refine hl0.mono ?_; rintro e w1 ⟨rfl, hk1⟩; obtain ⟨l1, l2, l3⟩ := HL.out w1 hk1) | (go_at_call 153; refine (hF.out _ hk1).mono ?_; rintro e w2 ⟨rfl, rfl⟩) | (go_at_call 204; refine (hG.out _ hk1).mono ?_; rintro e w2 ⟨rfl, hk2⟩; replace hk2 := hk1.trans hk2; obtain ⟨m1, m2, m3⟩ := HL.out w2 hk2) | (go_at_call 205; refine (hB2.out _ hk2).mono ?_; rintro e w3 ⟨rfl, rfl⟩))
          go_ret
          exact ⟨rfl, H.out.same hk2⟩
      · have hE : moveErr2 d room t other name (lookOf d f name) = givesErr d (lookOf d f name) old := by unfold moveErr2; rw [ho]; exact if_neg c3
        simp only [hE]
        clear hE
        have hb3 : (old == lookOf d f name) = false := by simpa using c3
        have hLO2 := Lib.hid (fun (w1 : World) (hk1 : Keeps NoB w w1) => hLO.out w1 hk1 old)
        unfold nodeV at hLO2
        rw [if_pos hold] at hLO2
        have hGI2 := Lib.hid (fun (w1 : World) (hk1 : Keeps NoB w w1) => hGI.out w1 hk1 old hold)
        replace hMV := Lib.hid (fun (w1 : World) (hk1 : Keeps NoB w w1) => hMV.out w1 hk1 (fun h => c3 (by cases h; rfl)))
        have hme : movedErr d room t other name = 0 := if_pos (entGet_has ho)
        unfold movedTo at hMV
        rw [hme, if_pos rfl] at hMV
        have hne : (some old ≠ some (lookOf d f name)) = True := by simp [c3]
        simp only [hne, and_true]
        clear hC hcl hfit hmax hB hget c0 f0 hk hk1 c2 hD e2 htop hGI hLO hf2 ht2 ho hf hlen hold c3 hme hne
        by_cases c4 : givesErr d (lookOf d f name) old = 0
        case neg =>
          rw [if_neg c4]
          clear hMV
          generalize givesErr d (lookOf d f name) old = ge at *
          generalize lookOf d f name = k at *
          rcases hkd with hkd | hkd
          case' inl => rw [hkd] at HL; replace hB2 := Lib.hid (hB2.out hkd); clear hkd
          case' inr => clear hB2; generalize (nd d k).kind = kd at *
          all_goals
            go_enter Tryz.func144, Tryz.ntmps144
            go_wp2_with (first | (go_at_call 198; refine hl0.mono ?_; rintro e w1 ⟨rfl, hk1⟩; obtain ⟨l1, l2, l3⟩ := HL.out w1 hk1) | (go_at_call 153; refine (hF.out _ hk1).mono ?_; rintro e w2 ⟨rfl, rfl⟩) | (go_at_call 204; refine (hG.out _ hk1).mono ?_; rintro e w2 ⟨rfl, hk2⟩; replace hk2 := hk1.trans hk2; obtain ⟨m1, m2, m3⟩ := HL.out w2 hk2; have m4 := hLO2.out w2 hk2) | (go_at_call 205; refine (hB2.out _ hk2).mono ?_; rintro e w3 ⟨rfl, rfl⟩) | (go_at_call 206; refine (hGI2.out _ hk2).mono ?_; rintro e w3 ⟨rfl, rfl⟩))
            go_ret
            exact ⟨rfl, H.out.same hk2⟩
        case pos =>
          rw [if_pos c4, c4]
          rw [c4] at hGI2
          generalize gc (moveTo d f name t other (lookOf d f name)) = d2 at *
          generalize lookOf d f name = k at *
          rcases hkd with hkd | hkd
          case' inl => rw [hkd] at HL; replace hB2 := Lib.hid (hB2.out hkd); clear hkd
          case' inr => clear hB2; generalize (nd d k).kind = kd at *
          all_goals
            go_enter Tryz.func144, Tryz.ntmps144
            go_wp2_with (first | (go_at_call 198; refine hl0.mono ?_; rintro e w1 ⟨rfl, hk1⟩; obtain ⟨l1, l2, l3⟩ := HL.out w1 hk1) | (go_at_call 153; refine (hF.out _ hk1).mono ?_; rintro e w2 ⟨rfl, rfl⟩) | (go_at_call 204; refine (hG.out _ hk1).mono ?_; rintro e w2 ⟨rfl, hk2⟩; replace hk2 := hk1.trans hk2; obtain ⟨m1, m2, m3⟩ := HL.out w2 hk2; have m4 := hLO2.out w2 hk2) | (go_at_call 205; refine (hB2.out _ hk2).mono ?_; rintro e w3 ⟨rfl, rfl⟩) | (go_at_call 206; refine (hGI2.out _ hk2).mono ?_; rintro e w3 ⟨rfl, rfl⟩) | (go_at_call 207; refine (hMV.out _ hk2).mono ?_; rintro e w3 ⟨rfl, hend⟩))
            go_ret
            exact ⟨rfl, hend.after hk2⟩

end

end Go.Proofs.YtbmalnllppamdaaGreatDoor

/-
  Move as the reference does it (the old name goes first): the same nodes. The pure part.
-/
set_option maxRecDepth 100000
namespace Go.Proofs.YtbmalnllppamdaaGreatDoor
open Go.RowKit

section
variable {d : Nds} {f t k : Int} {name other : ByteArray}

/-- The entries of the place, when the old name has gone. -/
def refAtL (d : Nds) (f : Int) (name : ByteArray) (t : Int) (other : ByteArray) (k : Int) : List Ent :=
  if entHas (nd d t).ents other then entSet (nd (dropTo d f name) t).ents other k else entPut (nd (dropTo d f name) t).ents other k

theorem setE_comm {i j : Int} (hi : has d i) (hj : has d j) (hne : i ≠ j) (l m : List Ent) : setE (setE d i l) j m = setE (setE d j m) i l := by
  have h1 := has_range hi
  have h2 := has_range hj
  unfold setE
  rw [nd_upd h1.1 h1.2, nd_upd h2.1 h2.2, if_neg (fun e => hne e.symm), if_neg hne]
  unfold upd
  rw [if_pos h1.1, if_pos h2.1, if_pos h1.1]
  rw [if_pos h2.1]
  exact List.set_comm _ _ (by omega)

theorem MoveOk.ref (M : MoveOk d f name t other k) : setE (dropTo d f name) t (refAtL d f name t other k) = moveTo d f name t other k := by
  unfold moveTo refAtL
  by_cases e : f = t
  · subst e
    have hne : name ≠ other := fun h => M.ne ⟨rfl, h⟩
    have h1 : (nd (dropTo d f name) f).ents = entDel (nd d f).ents name := by unfold dropTo; rw [ents_setE M.hf, if_pos rfl]
    rw [h1]
    unfold dropTo moveMid
    rw [setE_setE M.hf, ents_setE M.hf, if_pos rfl, setE_setE M.hf]
    congr 1
    unfold movedAt
    cases hh : entHas (nd d f).ents other with
    | true => simp only [if_true]; rw [set_del_comm M.rt hne]
    | false => simp only [Bool.false_eq_true, if_false]; rw [put_del_comm M.rt hh hne]
  · have h1 : (nd (dropTo d f name) t).ents = (nd d t).ents := by unfold dropTo; rw [ents_setE M.hf, if_neg (fun h => e h.symm)]
    have h2 : (nd (moveMid d t other k) f).ents = (nd d f).ents := by unfold moveMid; rw [ents_setE M.ht, if_neg e]
    rw [h1]
    unfold dropTo
    rw [h2]
    unfold moveMid movedAt
    exact setE_comm M.hf M.ht e _ _

theorem MoveOk.free (M : MoveOk d f name t other k) (hcl : NoGarb d) : (∀ old, entGet (nd d t).ents other = some old → Go.Proofs.YtbmalnllppamdaaGreatDoor.has (moveTo d f name t other k) old ∧ ∀ j, Garb (moveTo d f name t other k) j → j = old) ∧
    (entGet (nd d t).ents other = none → gc (moveTo d f name t other k) = moveTo d f name t other k) := by
  have hl := M.links
  refine ⟨fun old ho => ⟨(M.has old).2 (M.inv.tgt t _ (entGet_mem ho)).1, fun j hj => ?_⟩, fun ho => gc_same fun j hj => ?_⟩
  · obtain ⟨g1, g2, g3⟩ := hj
    rw [M.holds] at g3
    have h2 := hl j
    unfold movePend at h2
    rw [ho] at h2
    simp only at h2
    unfold onePend at h2
    by_cases e : j = old
    · exact e
    · rw [if_neg e] at h2
      exact absurd ⟨(M.has j).1 g1, by omega, g3⟩ (hcl j)
  · obtain ⟨g1, g2, g3⟩ := hj
    rw [M.holds] at g3
    have h2 := hl j
    unfold movePend at h2
    rw [ho] at h2
    simp only at h2
    unfold zp at h2
    exact hcl j ⟨(M.has j).1 g1, by omega, g3⟩

theorem MoveOk.small (M : MoveOk d f name t other k) (hs : smallD d) : smallD (moveTo d f name t other k) := by
  have := M.mass
  unfold smallD at *
  omega

theorem MoveOk.get_drop (M : MoveOk d f name t other k) : entHas (nd (dropTo d f name) t).ents other = entHas (nd d t).ents other := by
  unfold dropTo
  rw [ents_setE M.hf]
  split
  · next e =>
    subst e
    rw [entHas_del]
    have : decide (other = name) = false := decide_eq_false (fun h => M.ne ⟨rfl, h.symm⟩)
    first | (rw [this]; simp) | simp [this]
  · rfl

end

end Go.Proofs.YtbmalnllppamdaaGreatDoor
