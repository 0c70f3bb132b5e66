/-
  Contracts of package disk, the twelfth part: gives, below.
-/
import Derived.Test.YtfomkkoecelakaaDoorB11
import Derived.Test.YtfomkkoecelakaaDoorB09

set_option linter.unusedSimpArgs false
set_option linter.unusedVariables false

namespace Go.Proofs.YtfomkkoecelakaaDoor
open Go.RowKit
set_option maxRecDepth 100000
set_option maxHeartbeats 1000000

def givesErr (d : Nds) (k old : Int) : Int :=
  if (nd d k).kind = 2 ∧ (nd d old).kind ≠ 2 then 14 else if (nd d k).kind ≠ 2 ∧ (nd d old).kind = 2 then 15 else if (nd d old).ents ≠ [] then 16 else 0

section
variable {R : RD} {w : World} {a : Nat} {d : Nds} {room us : Int} {lk up : Int → Int}

open Classical in
noncomputable def muB (d : Nds) (x : Int) : Nat := if x = 0 then 0 else ancs d x + 1

/-- It answers whether P, and turns nothing. -/
def SaysW (w w' : World) (e : Ending) (P : Prop) : Prop := ∃ b : Bool, e = .returned (.bool b) ∧ (b = true ↔ P) ∧ w = w'

/-- A step up. -/
theorem up_step (hI : DInv d) (hup : UpOk d lk up) (hcnt : ∀ i, has d i → lk i = (links d i : Nat)) (top i x : Int) (hx : (nd d x).kind = 2) (hne : x ≠ top) (h1 : x ≠ 1) (hiff : Above d top x ↔ Above d top i) :
    (((nd d (up x)).kind = 2 ∧ (Above d top (up x) ↔ Above d top i)) ∨ (up x = 0 ∧ ¬ Above d top i)) ∧ muB d (up x) < muB d x := by
  have hh := setE_pos hI hx
  have hp := hI.pos hh
  obtain ⟨u1, u2, u3⟩ := hup x hh
  have hmx : muB d x = ancs d x + 1 := by unfold muB; rw [if_neg (by omega)]
  by_cases hc : cnt d x = 0
  · have h0 := u3 (by rw [hcnt x hh]; unfold links; rw [hc, if_neg h1]; rfl)
    refine ⟨.inr ⟨h0, fun ha => ?_⟩, ?_⟩
    · exact hne ((above_top (no_par_cnt hc)).1 (hiff.2 ha)).symm
    · rw [h0, hmx]; unfold muB; rw [if_pos rfl]; omega
  · obtain ⟨j, e, he, h2⟩ := cnt_pos.1 (Nat.pos_of_ne_zero hc)
    have hP : Par d j x := ⟨hx, e, he, h2⟩
    have hu := u1 j hP
    rw [hu]
    have hl := ancs_lt hI hP
    refine ⟨.inl ⟨hP.dir hI, ?_⟩, ?_⟩
    · rw [← hiff, above_par hI hP (fun e => hne e.symm)]
    · rw [hmx]; unfold muB; split <;> omega

end

end Go.Proofs.YtfomkkoecelakaaDoor

/-
  Contracts of package disk, the thirteenth part: moved.
-/
namespace Go.Proofs.YtfomkkoecelakaaDoor
open Go.RowKit
set_option maxRecDepth 100000
set_option maxHeartbeats 1000000

def movedErr (d : Nds) (room : Int) (t : Int) (other name : ByteArray) : Int :=
  if entHas (nd d t).ents other = true then 0 else if putErr (nd d t).ents other ≠ 0 then putErr (nd d t).ents other else if room - used d < (other.size : Int) - name.size then 20 else 0

theorem MoveOk.mk' {d : Nds} {f t k : Int} {name other : ByteArray} (hI : DInv d) (f2 : (nd d f).kind = 2) (t2 : (nd d t).kind = 2) (hg : entGet (nd d f).ents name = some k) (hne : entGet (nd d t).ents other ≠ some k)
    (hp : entHas (nd d t).ents other = false → putErr (nd d t).ents other = 0) (top : (nd d k).kind = 2 → ¬ Above d k t) : MoveOk d f name t other k :=
  ⟨hI, f2, t2, hg, fun ⟨h1, h2⟩ => hne (by rw [← h1, ← h2]; exact hg), hp, top⟩

theorem okName_size {s : ByteArray} (h : okName s = true) : s.size ≤ 255 := by
  simp [okName] at h
  omega

section
variable {R : RD} {w : World} {a : Nat} {d : Nds} {room us : Int} {lk up : Int → Int} {f t k : Int} {name other : ByteArray}

theorem MoveOk.size_name (M : MoveOk d f name t other k) : name.size ≤ 255 := okName_size ((M.inv.node f).names _ (entGet_mem M.get))
theorem MoveOk.size_other (M : MoveOk d f name t other k) : other.size ≤ 255 := okName_size M.okOther

theorem MoveOk.len_mid (M : MoveOk d f name t other k) (hs : smallD d) (j : Int) : (nd (moveMid d t other k) j).ents.length < 4294967295 := by
  have h1 : ∀ i, (nd d i).ents.length ≤ 2147483648 := fun i => by
    by_cases hh : 0 ≤ i ∧ i.toNat < d.length
    · have h1 := sumBy_ge mass1 hh.1 hh.2
      unfold smallD Go.Proofs.YtfomkkoecelakaaDoor.mass at hs
      unfold mass1 at hs h1
      omega
    · rw [nd_gone hh]; decide
  unfold moveMid
  rw [ents_setE M.ht]
  have := h1 t
  have := h1 j
  split
  · unfold movedAt
    cases hh : entHas (nd d t).ents other with
    | false => simp only [Bool.false_eq_true, if_false]; rw [len_put hh]; omega
    | true => simp only [if_true]; rw [len_set]; omega
  · omega

/-- What is left when the entry is in its new place. -/
def MovedEnd (R : RD) (w : World) (a : Nat) (d : Nds) (room : Int) (f : Int) (name : ByteArray) (t : Int) (other : ByteArray) (k : Int) (w2 : World) : Prop :=
  (∀ old, entGet (nd d t).ents other = some old → Calls Tryd.prog 71 #[.pointer (some ⟨a, 0, none⟩), .int .i64 old] w2 fun e w3 => e = .returned (.tuple #[]) ∧ DiskTo R w a (gc (moveTo d f name t other k)) room w3) ∧
  (entGet (nd d t).ents other = none → DiskTo R w a (gc (moveTo d f name t other k)) room w2)

theorem moved_end {R1 : RD} {w1 : World} {us1 : Int} (M : MoveOk d f name t other k) (hC : Casc R w a d room lk up zp) (hcl : NoGarb d) (hmax : room ≤ 9223372036854775807)
    (hR1 : Rep R1 w1 a (moveMid d t other k) room us1 lk up) (hT : Turn R w R1 w1) (hg : R1.g = R.g) (hus : us1 - name.size = used (moveTo d f name t other k)) (hfit : (used (moveTo d f name t other k) : Int) ≤ room) :
    w1.cell? ⟨a, 0, none⟩ = some (.map (some R1.b)) ∧ (Instr.lookup 72 (.map (some R1.b)) (.int .i64 f) false).run Tryd.prog w1 = .ok (.pointer (some ⟨R.g f, 0, none⟩)) w1 ∧
    Calls Tryd.prog 49 #[.pointer (some ⟨R.g f, 5, none⟩), .string name] w1 fun e w2 => e = .returned (.int .i64 0) ∧ w2.cell? ⟨a, 2, none⟩ = some (.int .i64 us1) ∧ w2.frozen? ⟨a, 2, none⟩ = false ∧
      w2.cell? ⟨R.g k, 0, none⟩ = some (.int .i64 (nd d k).kind) ∧ w2.cell? ⟨R.g k, 6, none⟩ = some (.int .i64 (up k)) ∧ w2.frozen? ⟨R.g k, 6, none⟩ = false ∧
      MovedEnd R w a d room f name t other k (if (nd d k).kind = 2 then (w2.setCell ⟨a, 2, none⟩ (.int .i64 (us1 - name.size))).setCell ⟨R.g k, 6, none⟩ (.int .i64 t) else w2.setCell ⟨a, 2, none⟩ (.int .i64 (us1 - name.size))) := by
  have hfm := M.hfm
  have hlk := hR1.look f
  unfold nodeV at hlk
  rw [if_pos hfm, hg] at hlk
  have hn := (hR1.node f hfm).dir
  rw [hg] at hn
  refine ⟨hR1.l, hlk, (drop_d w1 ⟨R.g f, 5, none⟩ (R1.ev f) _ name hn (M.len_mid hC.small f)).mono fun e w2 ⟨h4, h5⟩ => ?_⟩
  rw [show hasErr (nd (moveMid d t other k) f).ents name = 0 by unfold hasErr; rw [if_pos (entGet_has M.get_mid)]] at h4
  rw [← hg] at h5
  obtain ⟨R2, hR2, hT2, hg2, hb2⟩ := hR1.setDir hfm h5
  have hR2 : Rep R2 w2 a (moveTo d f name t other k) room us1 lk up := hR2
  have hk2 : has (moveTo d f name t other k) k := (M.has k).2 M.hk
  have hnk := hR2.node k hk2
  rw [hg2, hg] at hnk
  have hR3 := hR2.setUsed (us1 - name.size)
  have kk : Keeps R2.F w2 (w2.setCell ⟨a, 2, none⟩ (.int .i64 (us1 - name.size))) := (Keeps.refl R2.F w2).setCell (p := ⟨a, 2, none⟩) (.inl hR2.fA) _
  refine ⟨h4, hR2.used, hR2.fz 2, by rw [hnk.kind, M.kind], hnk.up, hnk.fz 6, ?_⟩
  have key : ∀ W, Rep R2 W a (moveTo d f name t other k) room (used (moveTo d f name t other k)) lk (if (nd d k).kind = 2 then setAt up k t else up) → Keeps R2.F w2 W → MovedEnd R w a d room f name t other k W := by
    intro W hRW hkW
    have hTW : Turn R w R2 W := (hT.trans hT2).trans (Turn.of hkW)
    obtain ⟨hC2, hno⟩ := M.casc hC hcl hRW
    refine ⟨fun old ho => ?_, fun ho => ?_⟩
    · have hpe : movePend d t other = onePend old := by unfold movePend; rw [ho]
      rw [hpe] at hC2 hno
      refine (less_ok _ R2 _ a (moveTo d f name t other k) room lk _ (onePend old) old rfl hC2 (onePend_pos old) hno).mono ?_
      rintro e w3 ⟨rfl, R', d', lk', up', h1, h2, h3, h4⟩
      rw [decAt_onePend] at h1 h2
      exact ⟨rfl, R', free_end h1 h2 h3 hfit hmax, hTW.trans h4⟩
    · have hpe : movePend d t other = zp := by unfold movePend; rw [ho]
      rw [hpe] at hC2 hno
      exact ⟨R2, free_end hC2 hno (Kills.refl _) hfit hmax, hTW⟩
  have e1 : (used (moveTo d f name t other k) : Int) = us1 - name.size := hus.symm
  by_cases hkk : (nd d k).kind = 2
  · rw [if_pos hkk]
    rw [← hg, ← hg2]
    have hR4 := hR3.setUp hk2 t
    refine key _ ?_ (kk.setCell (.inl (hR3.fN hk2)) _)
    rw [if_pos hkk, e1]
    exact hR4
  · rw [if_neg hkk]
    refine key _ ?_ kk
    rw [if_neg hkk, e1]
    exact hR3

/-- In another's place. -/
theorem moved_set {old : Int} {w1 : World} (M : MoveOk d f name t other k) (hC : Casc R w a d room lk up zp) (hcl : NoGarb d) (hfit : (used d : Int) ≤ room) (hmax : room ≤ 9223372036854775807) (ho : entGet (nd d t).ents other = some old)
    (ht : DTo w w1 ⟨R.g t, 5, none⟩ (R.ev t) (entSet (nd d t).ents other k)) :
    ∃ R1 : RD, R1.b = R.b ∧ w1.cell? ⟨a, 0, none⟩ = some (.map (some R1.b)) ∧ (Instr.lookup 72 (.map (some R1.b)) (.int .i64 f) false).run Tryd.prog w1 = .ok (.pointer (some ⟨R.g f, 0, none⟩)) w1 ∧
    Calls Tryd.prog 49 #[.pointer (some ⟨R.g f, 5, none⟩), .string name] w1 fun e w2 => e = .returned (.int .i64 0) ∧ w2.cell? ⟨a, 2, none⟩ = some (.int .i64 (used d)) ∧ w2.frozen? ⟨a, 2, none⟩ = false ∧
      w2.cell? ⟨R.g k, 0, none⟩ = some (.int .i64 (nd d k).kind) ∧ w2.cell? ⟨R.g k, 6, none⟩ = some (.int .i64 (up k)) ∧ w2.frozen? ⟨R.g k, 6, none⟩ = false ∧
      MovedEnd R w a d room f name t other k (if (nd d k).kind = 2 then (w2.setCell ⟨a, 2, none⟩ (.int .i64 ((used d : Int) - name.size))).setCell ⟨R.g k, 6, none⟩ (.int .i64 t) else w2.setCell ⟨a, 2, none⟩ (.int .i64 ((used d : Int) - name.size))) := by
  have e : entSet (nd d t).ents other k = movedAt d t other k := by unfold movedAt; rw [if_pos (entGet_has ho)]
  rw [e] at ht
  obtain ⟨R1, hR1, hT1, hg1, hb1⟩ := hC.rep.setDir M.ht ht
  have hR1 : Rep R1 w1 a (moveMid d t other k) room (used d) lk up := hR1
  have hu := M.used
  rw [if_pos (entGet_has ho)] at hu
  exact ⟨R1, hb1, moved_end M hC hcl hmax hR1 hT1 hg1 (by omega) (by omega)⟩

/-- A new name, and there is room. -/
theorem moved_put {w1 : World} (M : MoveOk d f name t other k) (hC : Casc R w a d room lk up zp) (hcl : NoGarb d) (hfit : (used d : Int) ≤ room) (hmax : room ≤ 9223372036854775807) (ho : entGet (nd d t).ents other = none)
    (hroom : (other.size : Int) - name.size ≤ room - used d) (ht : DTo w w1 ⟨R.g t, 5, none⟩ (R.ev t) (putTo (nd d t).ents other k)) :
    Calls Tryd.prog 27 #[.pointer (some ⟨a, 0, none⟩), .int .i64 ((other.size : Int) - name.size)] w1 fun e w2 => e = .returned (.bool true) ∧ w2.cell? ⟨a, 2, none⟩ = some (.int .i64 ((used d : Int) + ((other.size : Int) - name.size))) ∧ w2.frozen? ⟨a, 2, none⟩ = false ∧
    ∃ b : Nat, ∃ W : World, W = w2.setCell ⟨a, 2, none⟩ (.int .i64 ((used d : Int) + other.size)) ∧ W.cell? ⟨a, 0, none⟩ = some (.map (some b)) ∧ (Instr.lookup 72 (.map (some b)) (.int .i64 f) false).run Tryd.prog W = .ok (.pointer (some ⟨R.g f, 0, none⟩)) W ∧
    Calls Tryd.prog 49 #[.pointer (some ⟨R.g f, 5, none⟩), .string name] W fun e w2 => e = .returned (.int .i64 0) ∧ w2.cell? ⟨a, 2, none⟩ = some (.int .i64 ((used d : Int) + other.size)) ∧ w2.frozen? ⟨a, 2, none⟩ = false ∧
      w2.cell? ⟨R.g k, 0, none⟩ = some (.int .i64 (nd d k).kind) ∧ w2.cell? ⟨R.g k, 6, none⟩ = some (.int .i64 (up k)) ∧ w2.frozen? ⟨R.g k, 6, none⟩ = false ∧
      MovedEnd R w a d room f name t other k (if (nd d k).kind = 2 then (w2.setCell ⟨a, 2, none⟩ (.int .i64 ((used d : Int) + other.size - name.size))).setCell ⟨R.g k, 6, none⟩ (.int .i64 t) else w2.setCell ⟨a, 2, none⟩ (.int .i64 ((used d : Int) + other.size - name.size))) := by
  have hh : entHas (nd d t).ents other = false := by rw [← entGet_isSome, ho]; rfl
  have hp := M.put hh
  have e : putTo (nd d t).ents other k = movedAt d t other k := by unfold movedAt putTo; rw [if_pos hp, hh]; simp
  rw [e] at ht
  obtain ⟨R1, hR1, hT1, hg1, hb1⟩ := hC.rep.setDir M.ht ht
  have hR1 : Rep R1 w1 a (moveMid d t other k) room (used d) lk up := hR1
  have hu := M.used
  rw [hh] at hu
  simp only [Bool.false_eq_true, if_false] at hu
  have hs1 := M.size_name
  have hs2 := M.size_other
  refine (take_any hR1 ((other.size : Int) - name.size) (by omega) (by omega) hmax (by omega) (by omega)).mono fun e w2 ⟨h1, h2, h3⟩ => ?_
  rw [show (decide ((other.size : Int) - name.size ≤ room - used d)) = true from decide_eq_true (by omega)] at h1
  rw [show takeU room (used d) ((other.size : Int) - name.size) = used d + ((other.size : Int) - name.size) from if_pos (by omega)] at h2
  have hT2 := hR1.turnA hT1 h3
  have hR3 := h2.setUsed ((used d : Int) + other.size)
  have hT3 : Turn R w R1 (w2.setCell ⟨a, 2, none⟩ (.int .i64 ((used d : Int) + other.size))) := hT2.trans (Turn.of ((Keeps.refl R1.F w2).setCell (p := ⟨a, 2, none⟩) (.inl h2.fA) _))
  obtain ⟨f1, f2, f3⟩ := moved_end M hC hcl hmax hR3 hT3 hg1 (by omega) (by omega)
  exact ⟨h1, h2.used, h2.fz 2, R1.b, _, rfl, f1, f2, f3⟩

/-- A new name, and there is no room. -/
theorem moved_back {i k : Int} {name : ByteArray} {w1 : World} {n : Int} (hC : Casc R w a d room lk up zp) (hcl : NoGarb d) (hfit0 : (used d : Int) ≤ room) (hmax : room ≤ 9223372036854775807) (hi : (nd d i).kind = 2)
    (hp : putErr (nd d i).ents name = 0) (hfit : room - used d < n) (hn1 : n ≤ 4611686018427387904) (ht : DTo w w1 ⟨R.g i, 5, none⟩ (R.ev i) (putTo (nd d i).ents name k)) :
    Calls Tryd.prog 27 #[.pointer (some ⟨a, 0, none⟩), .int .i64 n] w1 fun e w2 => e = .returned (.bool false) ∧
      Calls Tryd.prog 49 #[.pointer (some ⟨R.g i, 5, none⟩), .string name] w2 fun e w3 => e = .returned (.int .i64 0) ∧ DiskTo R w a d room w3 := by
  have hh := setE_pos hC.inv hi
  obtain ⟨hok, hhas⟩ := putErr_zero.1 hp
  rw [show putTo (nd d i).ents name k = entPut (nd d i).ents name k from if_pos hp] at ht
  obtain ⟨R1, hR1, hT1, hg1, hb1⟩ := hC.rep.setDir hh ht
  have hR1 : Rep R1 w1 a (enterTo d i name k) room (used d) lk up := hR1
  have hul := used_le2 hC.inv hC.small
  refine (take_any hR1 n (by omega) (by omega) hmax (by omega) (by omega)).mono fun e w2 ⟨h1, h2, h3⟩ => ?_
  rw [show (decide (n ≤ room - used d)) = false from decide_eq_false (by omega)] at h1
  rw [show takeU room (used d) n = used d from if_neg (by omega)] at h2
  have hi1 : has (enterTo d i name k) i := (has_setE hh _ i).2 hh
  have hents : (nd (enterTo d i name k) i).ents = entPut (nd d i).ents name k := by unfold enterTo; rw [ents_setE hh, if_pos rfl]
  have hn := (h2.node i hi1).dir
  have hlen := nd_ents_len hC.small i
  have hl2 := len_put (k := k) hhas
  rw [hg1, hents] at hn
  have hlen2 : (nd d i).ents.length ≤ 2147483648 := by
    have h1 := sumBy_ge mass1 (has_range hh).1 (has_range hh).2
    have := hC.small
    unfold smallD mass at this
    unfold mass1 at h1
    unfold mass1 at this
    omega
  refine ⟨h1, (drop_d w2 ⟨R.g i, 5, none⟩ (R1.ev i) _ name hn (by omega)).mono fun e w3 ⟨h4, h5⟩ => ?_⟩
  have hput : entHas (entPut (nd d i).ents name k) name = true := by rw [entHas_put hhas]; simp
  rw [show hasErr (entPut (nd d i).ents name k) name = 0 by unfold hasErr; rw [if_pos hput]] at h4
  rw [entDel_put (hC.inv.node i).rising hhas] at h5
  rw [← hg1] at h5
  obtain ⟨R3, hR3, hT3, _, _⟩ := h2.setDir hi1 h5
  have hd : upd (enterTo d i name k) i ((nd (enterTo d i name k) i).setEnts (nd d i).ents) = d := by
    show setE (setE d i (entPut (nd d i).ents name k)) i (nd d i).ents = d
    rw [setE_setE hh, setE_self hh]
  rw [hd] at hR3
  exact ⟨h4, R3, ⟨⟨lk, up, hC.re hR3⟩, hcl, hfit0, hmax⟩, (hR1.turnA hT1 h3).trans hT3⟩

noncomputable def movedTo (d : Nds) (room : Int) (f : Int) (name : ByteArray) (t : Int) (other : ByteArray) (k : Int) : Nds := if movedErr d room t other name = 0 then gc (moveTo d f name t other k) else d

end

end Go.Proofs.YtfomkkoecelakaaDoor

/-
  Contracts of package disk, the fourteenth part: Move.
-/
namespace Go.Proofs.YtfomkkoecelakaaDoor
open Go.RowKit
set_option maxRecDepth 100000
set_option maxHeartbeats 1000000

/-- The error, when the name's node is found and the place is a directory. -/
def moveErr2 (d : Nds) (room : Int) (t : Int) (other name : ByteArray) (k : Int) : Int :=
  match entGet (nd d t).ents other with
  | some old => if old = k then 0 else givesErr d k old
  | none => movedErr d room t other name

open Classical in
noncomputable def moveErr (d : Nds) (room : Int) (f : Int) (name : ByteArray) (t : Int) (other : ByteArray) : Int :=
  if lookErr d f name ≠ 0 then lookErr d f name else if folderErr d t ≠ 0 then folderErr d t
  else if (nd d (lookOf d f name)).kind = 2 ∧ Above d (lookOf d f name) t then 23 else moveErr2 d room t other name (lookOf d f name)

noncomputable def moveD (d : Nds) (room : Int) (f : Int) (name : ByteArray) (t : Int) (other : ByteArray) : Nds :=
  if moveErr d room f name t other = 0 ∧ entGet (nd d t).ents other ≠ some (lookOf d f name) then gc (moveTo d f name t other (lookOf d f name)) else d

section
variable {R : RD} {w : World} {a : Nat} {d : Nds} {room : Int}

theorem moveErr_look {f t : Int} {name other : ByteArray} (h : lookErr d f name ≠ 0) : moveErr d room f name t other = lookErr d f name := by unfold moveErr; rw [if_pos h]
theorem moveErr_fold {f t : Int} {name other : ByteArray} (h : lookErr d f name = 0) (h2 : folderErr d t ≠ 0) : moveErr d room f name t other = folderErr d t := by
  unfold moveErr; rw [if_neg (by simpa using h), if_pos h2]
theorem moveErr_busy {f t : Int} {name other : ByteArray} (h : lookErr d f name = 0) (h2 : folderErr d t = 0) (h3 : (nd d (lookOf d f name)).kind = 2 ∧ Above d (lookOf d f name) t) : moveErr d room f name t other = 23 := by
  unfold moveErr; rw [if_neg (by simpa using h), if_neg (by simpa using h2), if_pos h3]
theorem moveErr_two {f t : Int} {name other : ByteArray} (h : lookErr d f name = 0) (h2 : folderErr d t = 0) (h3 : ¬ ((nd d (lookOf d f name)).kind = 2 ∧ Above d (lookOf d f name) t)) : moveErr d room f name t other = moveErr2 d room t other name (lookOf d f name) := by
  unfold moveErr; rw [if_neg (by simpa using h), if_neg (by simpa using h2), if_neg h3]
theorem moveD_err {f t : Int} {name other : ByteArray} (h : moveErr d room f name t other ≠ 0) : moveD d room f name t other = d := by unfold moveD; rw [if_neg (fun e => h e.1)]

end

end Go.Proofs.YtfomkkoecelakaaDoor

/-
  Move as the reference does it (the old name goes first): the same nodes. The pure part.
-/
set_option maxRecDepth 100000
namespace Go.Proofs.YtfomkkoecelakaaDoor
open Go.RowKit

section
variable {d : Nds} {f t k : Int} {name other : ByteArray}

/-- The entries of the place, when the old name has gone. -/
def refAtL (d : Nds) (f : Int) (name : ByteArray) (t : Int) (other : ByteArray) (k : Int) : List Ent :=
  if entHas (nd d t).ents other then entSet (nd (dropTo d f name) t).ents other k else entPut (nd (dropTo d f name) t).ents other k

theorem setE_comm {i j : Int} (hi : has d i) (hj : has d j) (hne : i ≠ j) (l m : List Ent) : setE (setE d i l) j m = setE (setE d j m) i l := by
  have h1 := has_range hi
  have h2 := has_range hj
  unfold setE
  rw [nd_upd h1.1 h1.2, nd_upd h2.1 h2.2, if_neg (fun e => hne e.symm), if_neg hne]
  unfold upd
  rw [if_pos h1.1, if_pos h2.1, if_pos h1.1]
  rw [if_pos h2.1]
  exact List.set_comm _ _ (by omega)

theorem MoveOk.ref (M : MoveOk d f name t other k) : setE (dropTo d f name) t (refAtL d f name t other k) = moveTo d f name t other k := by
  unfold moveTo refAtL
  by_cases e : f = t
  · subst e
    have hne : name ≠ other := fun h => M.ne ⟨rfl, h⟩
    have h1 : (nd (dropTo d f name) f).ents = entDel (nd d f).ents name := by unfold dropTo; rw [ents_setE M.hf, if_pos rfl]
    rw [h1]
    unfold dropTo moveMid
    rw [setE_setE M.hf, ents_setE M.hf, if_pos rfl, setE_setE M.hf]
    congr 1
    unfold movedAt
    cases hh : entHas (nd d f).ents other with
    | true => simp only [if_true]; rw [set_del_comm M.rt hne]
    | false => simp only [Bool.false_eq_true, if_false]; rw [put_del_comm M.rt hh hne]
  · have h1 : (nd (dropTo d f name) t).ents = (nd d t).ents := by unfold dropTo; rw [ents_setE M.hf, if_neg (fun h => e h.symm)]
    have h2 : (nd (moveMid d t other k) f).ents = (nd d f).ents := by unfold moveMid; rw [ents_setE M.ht, if_neg e]
    rw [h1]
    unfold dropTo
    rw [h2]
    unfold moveMid movedAt
    exact setE_comm M.hf M.ht e _ _

theorem MoveOk.free (M : MoveOk d f name t other k) (hcl : NoGarb d) : (∀ old, entGet (nd d t).ents other = some old → Go.Proofs.YtfomkkoecelakaaDoor.has (moveTo d f name t other k) old ∧ ∀ j, Garb (moveTo d f name t other k) j → j = old) ∧
    (entGet (nd d t).ents other = none → gc (moveTo d f name t other k) = moveTo d f name t other k) := by
  have hl := M.links
  refine ⟨fun old ho => ⟨(M.has old).2 (M.inv.tgt t _ (entGet_mem ho)).1, fun j hj => ?_⟩, fun ho => gc_same fun j hj => ?_⟩
  · obtain ⟨g1, g2, g3⟩ := hj
    rw [M.holds] at g3
    have h2 := hl j
    unfold movePend at h2
    rw [ho] at h2
    simp only at h2
    unfold onePend at h2
    by_cases e : j = old
    · exact e
    · rw [if_neg e] at h2
      exact absurd ⟨(M.has j).1 g1, by omega, g3⟩ (hcl j)
  · obtain ⟨g1, g2, g3⟩ := hj
    rw [M.holds] at g3
    have h2 := hl j
    unfold movePend at h2
    rw [ho] at h2
    simp only at h2
    unfold zp at h2
    exact hcl j ⟨(M.has j).1 g1, by omega, g3⟩

theorem MoveOk.small (M : MoveOk d f name t other k) (hs : smallD d) : smallD (moveTo d f name t other k) := by
  have := M.mass
  unfold smallD at *
  omega

theorem MoveOk.get_drop (M : MoveOk d f name t other k) : entHas (nd (dropTo d f name) t).ents other = entHas (nd d t).ents other := by
  unfold dropTo
  rw [ents_setE M.hf]
  split
  · next e =>
    subst e
    rw [entHas_del]
    have : decide (other = name) = false := decide_eq_false (fun h => M.ne ⟨rfl, h.symm⟩)
    first | (rw [this]; simp) | simp [this]
  · rfl

end

end Go.Proofs.YtfomkkoecelakaaDoor
