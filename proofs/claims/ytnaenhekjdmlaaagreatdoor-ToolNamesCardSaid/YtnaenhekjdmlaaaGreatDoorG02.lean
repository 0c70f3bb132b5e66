/-
  Contracts of package disk, the first part: what only reads.
-/
import Derived.Test.YtnaenhekjdmlaaaGreatDoorG01
import Derived.BigQuiet
import Derived.Deep.QuietTactic
import Derived.StillTailTactics
import Derived.Deep.RegionWith
import Derived.Deep.CutRange
import Derived.Handy
import Derived.Laws.ResultCell

set_option linter.unusedSimpArgs false
set_option linter.unusedVariables false
namespace Go.Proofs.YtnaenhekjdmlaaaGreatDoor
open Go.RowKit
set_option maxRecDepth 100000
set_option maxHeartbeats 1000000
section
variable {R : RD} {w : World} {a : Nat} {d : Nds} {room us : Int} {lk up : Int -> Int}
def folderErr (d : Nds) (i : Int) : Int := if (nd d i).kind = 0 then 12 else if (nd d i).kind = 2 then 0 else 14
def dataErr (d : Nds) (i : Int) : Int := if (nd d i).kind = 0 then 12 else if (nd d i).kind = 2 then 15 else 0
def dataOf (d : Nds) (i : Int) : ByteArray := if (nd d i).kind = 0 then ⟨#[]⟩ else if (nd d i).kind = 2 then ⟨#[]⟩ else (nd d i).data
def ptrIf (R : RD) (e i : Int) : Value := if e = 0 then .pointer (some ⟨R.g i, 0, none⟩) else .pointer none
def okMode (m : Int) : Bool := decide (0 <= m) && decide (m <= 4095)
theorem not_has {d : Nds} {i : Int} (h : ¬ has d i) : (nd d i).kind = 0 := by simpa [has] using h
theorem folder_any (h : Rep R w a d room us lk up) (i : Int) :
 Calls Tryz.prog 161 #[.pointer (some ⟨a, 0, none⟩), .int .i64 i] w fun e w' => e = .returned (.tuple #[ptrIf R (folderErr d i) i, .int .i64 (folderErr d i)]) ∧ w = w' := by
 have hl := h.l
 have hlook := h.look i
 unfold nodeV at hlook
 unfold folderErr
 by_cases hi : has d i
 ·rw [if_pos hi] at hlook
  have hk := (h.node i hi).kind
  have hi0 : ¬ (nd d i).kind = 0 := hi
  rw [if_neg hi0]
  generalize (nd d i).kind = kd at hk
  by_cases h2 : kd = 2
  ·rw [if_pos h2]
   subst h2
   go_enter Tryz.func161, Tryz.ntmps161
   go_wp2
   go_ret2
   exact ⟨rfl, rfl⟩
  ·rw [if_neg h2]
   go_enter Tryz.func161, Tryz.ntmps161
   go_wp2
   go_ret2
   exact ⟨rfl, rfl⟩
 ·rw [if_neg hi] at hlook
  rw [if_pos (not_has hi)]
  go_enter Tryz.func161, Tryz.ntmps161
  go_wp2
  go_ret2
  exact ⟨rfl, rfl⟩
theorem right_any (m : Int) (w : World) : Calls Tryz.prog 107 #[.int .i64 m] w fun e w' => e = .returned (.bool (okMode m)) ∧ w = w' := by
 go_enter Tryz.func107, Tryz.ntmps107
 go_wp2
 all_goals
  go_ret
  exact ⟨ret_bool (by simp [okMode, *] <;> omega), rfl⟩
theorem data_any (h : Rep R w a d room us lk up) (i : Int) :
 Calls Tryz.prog 26 #[.pointer (some ⟨a, 0, none⟩), .int .i64 i] w fun e w' => e = .returned (.tuple #[.string (dataOf d i), .int .i64 (dataErr d i)]) ∧ w = w' := by
 have hl := h.l
 have hlook := h.look i
 unfold nodeV at hlook
 unfold dataErr dataOf
 by_cases hi : has d i
 ·rw [if_pos hi] at hlook
  have hn := h.node i hi
  have hk := hn.kind
  have hd := hn.data
  have hconv := hn.own.str (P := Tryz.prog) 28 9 5 Tryz.underlying28 Tryz.underlying5 Tryz.underlying9
  have hi0 : ¬ (nd d i).kind = 0 := hi
  rw [if_neg hi0, if_neg hi0]
  obtain ⟨p, cap, hv⟩ := hn.own.form
  rw [hv] at hd hconv
  generalize (nd d i).data = s at hd hconv
  generalize (nd d i).kind = kd at hk
  by_cases h2 : kd = 2
  ·rw [if_pos h2, if_pos h2]
   subst h2
   go_enter Tryz.func26, Tryz.ntmps26
   go_wp2
   go_ret2
   exact ⟨rfl, rfl⟩
  ·rw [if_neg h2, if_neg h2]
   go_enter Tryz.func26, Tryz.ntmps26
   go_wp2
   go_ret2
   exact ⟨rfl, rfl⟩
 ·rw [if_neg hi] at hlook
  rw [if_pos (not_has hi), if_pos (not_has hi)]
  go_enter Tryz.func26, Tryz.ntmps26
  go_wp2
  go_ret2
  exact ⟨rfl, rfl⟩
def lookErr (d : Nds) (i : Int) (name : ByteArray) : Int := if folderErr d i ≠ 0 then folderErr d i else if (entGet (nd d i).ents name).isSome then 0 else 12
def lookOf (d : Nds) (i : Int) (name : ByteArray) : Int := if folderErr d i ≠ 0 then 0 else (entGet (nd d i).ents name).getD 0
theorem folderErr_zero {d : Nds} {i : Int} (h : folderErr d i = 0) : has d i ∧ (nd d i).kind = 2 := by
 unfold folderErr at h
 split at h
 ·cases h
 ·next h0 =>
  split at h
  ·next h2 => exact ⟨h0, h2⟩
  ·cases h
theorem look_any (h : Rep R w a d room us lk up) (i : Int) (name : ByteArray) (hn : (nd d i).ents.length < 4294967295) :
 Calls Tryz.prog 160 #[.pointer (some ⟨a, 0, none⟩), .int .i64 i, .string name] w fun e w' => e = .returned (.tuple #[.int .i64 (lookOf d i name), .int .i64 (lookErr d i name)]) ∧ Keeps NoB w w' := by
 have hf := folder_any h i
 unfold lookOf lookErr
 by_cases he : folderErr d i = 0
 ·have hi := (folderErr_zero he).1
  have hget := get_any (fun _ => True) w ⟨R.g i, 5, none⟩ (R.ev i) (nd d i).ents name ((h.node i hi).dir.any (fun _ _ => trivial)) (by omega)
  rw [he] at hf ⊢
  have hp : ptrIf R 0 i = .pointer (some ⟨R.g i, 0, none⟩) := rfl
  rw [hp] at hf
  cases hg : entGet (nd d i).ents name with
  | none =>
    rw [hg] at hget
    go_enter Tryz.func160, Tryz.ntmps160
    go_wp2_with (first | (go_at_call 161; refine hf.mono ?_; rintro e w1 ⟨rfl, rfl⟩) | (go_at_call 207; refine hget.mono ?_; rintro e w1 ⟨rfl, hk⟩))
    go_ret2
    exact ⟨rfl, hk⟩
  | some k =>
    rw [hg] at hget
    go_enter Tryz.func160, Tryz.ntmps160
    go_wp2_with (first | (go_at_call 161; refine hf.mono ?_; rintro e w1 ⟨rfl, rfl⟩) | (go_at_call 207; refine hget.mono ?_; rintro e w1 ⟨rfl, hk⟩))
    go_ret2
    exact ⟨rfl, hk⟩
 ·simp only [ne_eq, he, not_false_eq_true, if_true]
  have hp : ptrIf R (folderErr d i) i = .pointer none := if_neg he
  rw [hp] at hf
  generalize folderErr d i = er at hf he
  go_enter Tryz.func160, Tryz.ntmps160
  go_wp2_with (go_at_call 161; refine hf.mono ?_; rintro e w1 ⟨rfl, rfl⟩)
  go_ret2
  exact ⟨rfl, Keeps.refl _ _⟩
theorem listD_any (h : Rep R w a d room us lk up) (i : Int) (hn : (nd d i).ents.length < 4294967295) :
 Calls Tryz.prog 167 #[.pointer (some ⟨a, 0, none⟩), .int .i64 i] w fun e w' => ∃ v, e = .returned (.tuple #[v, .int .i64 (folderErr d i)]) ∧ Own encEnt 193 (fun g => w.heap.size <= g) w' v (if folderErr d i = 0 then (nd d i).ents else []) ∧ Keeps NoB w w' := by
 have hf := folder_any h i
 by_cases he : folderErr d i = 0
 ·have hi := (folderErr_zero he).1
  have hlist := list_any (fun _ => True) w ⟨R.g i, 5, none⟩ (R.ev i) (nd d i).ents ((h.node i hi).dir.any (fun _ _ => trivial)) (by omega)
  rw [he] at hf ⊢
  rw [if_pos rfl]
  have hp : ptrIf R 0 i = .pointer (some ⟨R.g i, 0, none⟩) := rfl
  rw [hp] at hf
  go_enter Tryz.func167, Tryz.ntmps167
  go_wp2_with (first | (go_at_call 161; refine hf.mono ?_; rintro e w1 ⟨rfl, rfl⟩) | (go_at_call 165; refine hlist.mono ?_; rintro e w1 ⟨v, rfl, ho, hk⟩))
  go_ret2
  exact ⟨v, rfl, ho, hk⟩
 ·rw [if_neg he]
  have hp : ptrIf R (folderErr d i) i = .pointer none := if_neg he
  rw [hp] at hf
  generalize folderErr d i = er at hf he
  go_enter Tryz.func167, Tryz.ntmps167
  go_wp2_with (go_at_call 161; refine hf.mono ?_; rintro e w1 ⟨rfl, rfl⟩)
  go_ret2
  exact ⟨_, rfl, Own.nil _ _ _ _, Keeps.refl _ _⟩
theorem up_any (h : Rep R w a d room us lk up) (i : Int) :
 Calls Tryz.prog 159 #[.pointer (some ⟨a, 0, none⟩), .int .i64 i] w fun e w' => e = .returned (.tuple #[.int .i64 (if folderErr d i = 0 then up i else 0), .int .i64 (folderErr d i)]) ∧ w = w' := by
 have hf := folder_any h i
 by_cases he : folderErr d i = 0
 ·have hi := (folderErr_zero he).1
  have hu := (h.node i hi).up
  rw [he] at hf ⊢
  rw [if_pos rfl]
  have hp : ptrIf R 0 i = .pointer (some ⟨R.g i, 0, none⟩) := rfl
  rw [hp] at hf
  go_enter Tryz.func159, Tryz.ntmps159
  go_wp2_with (go_at_call 161; refine hf.mono ?_; rintro e w1 ⟨rfl, rfl⟩)
  go_ret2
  exact ⟨rfl, rfl⟩
 ·rw [if_neg he]
  have hp : ptrIf R (folderErr d i) i = .pointer none := if_neg he
  rw [hp] at hf
  generalize folderErr d i = er at hf he
  go_enter Tryz.func159, Tryz.ntmps159
  go_wp2_with (go_at_call 161; refine hf.mono ?_; rintro e w1 ⟨rfl, rfl⟩)
  go_ret2
  exact ⟨rfl, rfl⟩
end
set_option maxRecDepth 100000
set_option maxHeartbeats 1000000
section
variable {R : RD} {w : World} {a : Nat} {d : Nds} {room us : Int} {lk up : Int -> Int}
def takeU (room us n : Int) : Int := if n <= room - us then us + n else us
theorem keeps_to (w wr : World) (k : Keeps NoB w wr) (p : Addr) (u : Value) : Keeps (fun x => x = p.block) w (wr.setCell p u) := Keeps.setCell (F := fun x => x = p.block) (p := p) k.of_none (Or.inl rfl) u
theorem take_any (h : Rep R w a d room us lk up) (n : Int) (h0 : 0 <= us) (h1 : us <= room) (h2 : room <= 9223372036854775807) (h3 : -4611686018427387904 <= n) (h4 : n <= 4611686018427387904) :
 Calls Tryz.prog 105 #[.pointer (some ⟨a, 0, none⟩), .int .i64 n] w fun e w' => e = .returned (.bool (decide (n <= room - us))) ∧ Rep R w' a d room (takeU room us n) lk up ∧ Keeps (fun x => x = a) w w' := by
 have hu := h.used
 have hr := h.room
 have hf := h.fz 2
 have H := Lib.hid h
 have e1 : IntKind.i64.wrap (room - us) = room - us := by rw [IntKind.wrap_i64]; omega
 by_cases c : n <= room - us
 ·have e2 : IntKind.i64.wrap (us + n) = us + n := by rw [IntKind.wrap_i64]; omega
  have hd : decide (n <= room - us) = true := decide_eq_true c
  have ht : takeU room us n = us + n := if_pos c
  rw [hd, ht]
  have hlt : ¬ (room - us < n) := by omega
  clear h hd ht c
  go_enter Tryz.func105, Tryz.ntmps105
  go_wp2_with (go_quiet (fail))
  all_goals
   go_ret
   refine ⟨rfl, ?_, ?_⟩
   ·exact (H.out.keepN ((Keeps.refl _ _).drewN _)).setUsed _
   ·exact keeps_to w _ ((Keeps.refl _ _).drewN _) ⟨a, 2, none⟩ _
 ·have hd : decide (n <= room - us) = false := decide_eq_false c
  have ht : takeU room us n = us := if_neg c
  rw [hd, ht]
  have hlt : room - us < n := by omega
  clear h hd ht c
  go_enter Tryz.func105, Tryz.ntmps105
  go_wp2_with (go_quiet (fail))
  all_goals
   go_ret
   exact ⟨rfl, H.out.keepN ((Keeps.refl _ _).drewN _), ((Keeps.refl _ _).drewN _)⟩
end
set_option maxRecDepth 100000
set_option maxHeartbeats 1000000
theorem less_of_free (n : Nat) (hf : FreeOk n) : LessOk n := by
 intro R w a d room lk up pend i hn h hp hng
 have hi := h.pres i hp
 have hl := h.rep.l
 have hlook := h.rep.look i
 unfold nodeV at hlook
 rw [if_pos hi] at hlook
 have hnode := h.rep.node i hi
 have hk := hnode.links
 have hf2 := hnode.fz 2
 have hf6 := hnode.fz 6
 have hc6 := hnode.up
 have hc := h.cnt i hi
 have hb := h.lkb i hi
 have H := Lib.hid h
 have hF := h.rep.fN hi
 by_cases hz : lk i - 1 = 0
 ·have hL : lk i = 1 := by omega
  have hR2 := (h.rep.setLinks hi 0).setUp hi 0
  rw [show setAt lk i 0 = setAt lk i (lk i - 1) by rw [hz]] at hR2
  have hC := H.out.dec hp hR2 (by rw [if_pos hz])
  have hk2 : Keeps R.F w ((w.setCell ⟨R.g i, 2, none⟩ (.int .i64 0)).setCell ⟨R.g i, 6, none⟩ (.int .i64 0)) := (((Keeps.refl R.F w).setCell (p := ⟨R.g i, 2, none⟩) (.inl hF) _).setCell (p := ⟨R.g i, 6, none⟩) (.inl hF) _)
  have hfree := hf R _ a d room _ _ _ i hn hC hi (fun j hj => PG.of_dec hng hj)
  have HC := Lib.hid hC
  have HF := Lib.hid hfree
  have HK := Lib.hid hk2
  rw [hL] at hk
  clear hC hfree hk2 hR2 h hnode hn hng hf hc hb hp hz hL
  go_enter Tryz.func166, Tryz.ntmps166
  go_wp2_with (go_at_call 106; refine HF.out.mono ?_; rintro e w1 ⟨rfl, R', d', lk', up', h1, h2, h3, h4⟩)
  go_end0
  exact ⟨rfl, R', d', lk', up', h1, h2, h3, (Turn.of HK.out).trans h4⟩
 ·have hR2 := h.rep.setLinks hi (lk i - 1)
  have hC := H.out.dec hp hR2 (by rw [if_neg hz])
  have hk2 : Keeps R.F w (w.setCell ⟨R.g i, 2, none⟩ (.int .i64 (lk i - 1))) := ((Keeps.refl R.F w).setCell (p := ⟨R.g i, 2, none⟩) (.inl hF) _)
  have hfree := hf R _ a d room _ _ _ i hn hC hi (fun j hj => PG.of_dec hng hj)
  have e1 : IntKind.i64.wrap (lk i - 1) = lk i - 1 := by rw [IntKind.wrap_i64]; omega
  have HC := Lib.hid hC
  have HF := Lib.hid hfree
  have HK := Lib.hid hk2
  clear hC hfree hk2 hR2 h hnode hn hng hf hc hb hp
  go_enter Tryz.func166, Tryz.ntmps166
  go_wp2_with (go_at_call 106; refine HF.out.mono ?_; rintro e w1 ⟨rfl, R', d', lk', up', h1, h2, h3, h4⟩)
  go_end0
  exact ⟨rfl, R', d', lk', up', h1, h2, h3, (Turn.of HK.out).trans h4⟩
set_option maxRecDepth 100000
set_option maxHeartbeats 2000000
theorem free_of_less (n : Nat) (hless : ∀ m, m < n -> LessOk m) : FreeOk n := by
 intro R w a d room lk up pend i hn h hi hpg
 have hl := h.rep.l
 have hlook := h.rep.look i
 unfold nodeV at hlook
 rw [if_pos hi] at hlook
 have hnode := h.rep.node i hi
 have hk := hnode.links
 have hh := hnode.holds
 have hc := h.cnt i hi
 have hh0 := (h.inv.node i).holds
 have H := Lib.hid h
 by_cases hz : 0 < lk i
 ·have hno : ∀ j, ¬ PG d pend j := fun j hj => by
   have := hpg j hj; subst this
   obtain ⟨_, h2, h3, _⟩ := hj
   omega
  have HN := Lib.hid hno
  clear hno h hc hpg hn hless hnode
  go_enter Tryz.func106, Tryz.ntmps106
  go_wp2
  go_end0
  exact ⟨rfl, R, d, lk, up, H.out, HN.out, .refl _, Turn.refl _ _⟩
 ·have hL : lk i = 0 := by omega
  rw [hL] at hk
  by_cases hy : 0 < (nd d i).holds
  ·have hno : ∀ j, ¬ PG d pend j := fun j hj => by
    have := hpg j hj; subst this
    obtain ⟨_, h2, h3, h4⟩ := hj
    omega
   have HN := Lib.hid hno
   clear hno h hc hpg hn hless hnode hz hL
   generalize (nd d i).holds = x at *
   go_enter Tryz.func106, Tryz.ntmps106
   go_wp2
   go_end0
   exact ⟨rfl, R, d, lk, up, H.out, HN.out, .refl _, Turn.refl _ _⟩
  ·have hY : (nd d i).holds = 0 := by omega
   rw [hY] at hh
   have hg : PG d pend i := ⟨hi, by omega, by omega, hY⟩
   have hu := h.rep.used
   have hfu := h.rep.fz 2
   obtain ⟨p, cap, hv⟩ := hnode.own.form
   have hd4 := hnode.data
   rw [hv] at hd4
   have hlen := nd_ents_len h.small i
   have hsize := fun wx (hx : Keeps NoB w wx) => size_any (fun _ => True) wx ⟨R.g i, 5, none⟩ (R.ev i) (nd d i).ents ((hnode.dir.keep hx (fun h => h) (fun _ _ h => h)).any (fun _ _ => trivial)) (by omega)
   have hroom : room1 (nd d i) <= used d := sumBy_ge room1 (has_range hi).1 (has_range hi).2
   have hul := used_le h.inv
   have hsm := h.small
   unfold smallD at hsm
   unfold room1 at hroom
   have e1 : IntKind.i64.wrap (((nd d i).data.size : Int) + (entSize (nd d i).ents : Int)) = ((nd d i).data.size : Int) + (entSize (nd d i).ents : Int) := by rw [IntKind.wrap_i64]; omega
   have e2 : IntKind.i64.wrap ((used d : Int) - (((nd d i).data.size : Int) + (entSize (nd d i).ents : Int))) = (used d : Int) - (((nd d i).data.size : Int) + (entSize (nd d i).ents : Int)) := by rw [IntKind.wrap_i64]; omega
   have HU := Lib.hid (fun wx (hx : Keeps NoB w wx) => (⟨(hx.cell (p := ⟨a, 2, none⟩) h.rep.alt (fun h => h)).trans hu, (hx.frozen (p := ⟨a, 2, none⟩) h.rep.alt (fun h => h)).trans hfu, (hx.cell (p := ⟨R.g i, 4, none⟩) hnode.lt (fun h => h)).trans hd4⟩ : wx.cell? ⟨a, 2, none⟩ = some (.int .i64 (used d)) ∧ wx.frozen? ⟨a, 2, none⟩ = false ∧ wx.cell? ⟨R.g i, 4, none⟩ = some (.slice p (nd d i).data.size cap)))
   have HS := Lib.hid hsize
   have HN := Lib.hid hnode
   have HG := Lib.hid hpg
   have Hless := Lib.hid hless
   have hV := Lib.hid hv
   clear h hpg hc hnode hsize hz hL hy hY hroom hul hsm hless hv
   have Hend : Hid (∀ w0, Keeps NoB w w0 -> ∃ wA, w0.setCell ⟨a, 2, none⟩ (.int .i64 ((used d : Int) - (((nd d i).data.size : Int) + (entSize (nd d i).ents : Int)))) = wA ∧ Rep R wA a d room (used (kill d i)) lk up ∧ Keeps R.F w wA) :=
    Lib.hid fun w0 hk0 => ⟨_, rfl, by
     have h1 := (H.out.rep.keepN hk0).setUsed ((used d : Int) - (((nd d i).data.size : Int) + (entSize (nd d i).ents : Int)))
     have h2 := used_kill hi
     unfold room1 at h2
     have e : (used d : Int) - (((nd d i).data.size : Int) + (entSize (nd d i).ents : Int)) = (used (kill d i) : Int) := by omega
     rw [e] at h1 ⊢
     exact h1,
     (hk0.of_none).setCell (.inl H.out.rep.fA) _⟩
   generalize hD : (nd d i).data.size = ds at *
   generalize hE : entSize (nd d i).ents = es at *
   generalize hUs : used d = u at *
   have hD := Lib.hid hD
   have hE := Lib.hid hE
   have hUs := Lib.hid hUs
   go_enter Tryz.func106, Tryz.ntmps106
   go_upto_region 2 with fail
   go_cut [6] from 25 to 41 (fun _ wx => ∃ w0, Keeps NoB w w0 ∧ wx = w0.setCell ⟨a, 2, none⟩ (.int .i64 ((u : Int) - ((ds : Int) + (es : Int)))))
   case first =>
    go_region_with (go_at_call 164; refine (HS.out _ ?_).mono ?_; (first | exact Keeps.refl _ _ | exact (Keeps.refl _ _).drew | exact ((Keeps.refl _ _).drew).drew); rintro e w1 ⟨rfl, hk1⟩; have hk2 : Keeps NoB w w1 := ((Keeps.refl _ _).drew).trans hk1; obtain ⟨hu1, hf1, hd1⟩ := HU.out w1 hk2)
    all_goals (go_wp2_with fail; go_meet; exact ⟨_, by first | exact hk2 | exact hk2.drew, rfl⟩)
   case rest =>
    obtain ⟨w0, hk0, rfl⟩ := hcut
    obtain ⟨wA, hA1, hA2, hA3⟩ := Hend.out w0 hk0
    rw [hA1]
    have hlA := hA2.l
    have hmA := hA2.map
    have HA2 := Lib.hid hA2
    have HA3 := Lib.hid hA3
    clear hA1 hA2 hA3 HU HS hu hfu hd4 hl hlook hk hh hh0 hk0 Hend e1 e2 hD hE hUs HN hV w0
    go_wp2_with (first | (at_delete; refine wpl_delete rfl (.tmp 45) (.tmp 46) _ _ rfl Tryz.underlying106 Tryz.underlying3 rfl hmA rfl ?_; intro w2 hm2 hk2) | fail)
    have hR2 := HA2.out.kill hi hk2 hm2
    have hC2 := H.out.kill hg hR2
    have hN2 : ∀ j, ¬ PG (kill d i) (pendL pend (nd d i).ents) j := fun j hj => by
     have := PG.of_kill (pend := pend) hi hj
     exact this.2 (HG.out j this.1)
    have hgB : ¬ R.g i = R.b := fun e => by have h1 := HA2.out.tagN i hi; rw [e, HA2.out.tagB] at h1; cases h1
    have heB : ∀ x, (R.ev i).ownBlock = some x -> ¬ x = R.b := fun x hx e => by have h1 := HA2.out.tagE i hi x hx; rw [e, HA2.out.tagB] at h1; cases h1
    have hdir := ((HA2.out.node i hi).dir.keep hk2 hgB heB).any (G := fun _ => True) (fun _ _ => trivial)
    have hlist := list_any (fun _ => True) w2 ⟨R.g i, 5, none⟩ (R.ev i) (nd d i).ents hdir (by omega)
    have hT2 : Turn R w { R with kv := kvDel R.kv i } w2 := ⟨HA3.out.step hk2 (fun x hx => .inl (by subst hx; exact HA2.out.fB)), fun _ _ => rfl⟩
    have HC2 := Lib.hid hC2
    have HN2 := Lib.hid hN2
    have HT2 := Lib.hid hT2
    have HL := Lib.hid hlist
    clear hR2 hC2 hN2 hgB heB hdir hlist hT2 hlA hmA hm2 hk2 HA2 HA3
    go_wp2_with (go_at_call 165; refine HL.out.mono ?_; rintro e w3 ⟨v, rfl, ho, hk3⟩; obtain ⟨p', c', rfl, hs⟩ := ho.sl)
    have hs0 : SlAt encEnt (fun x => R.tag x = .none) w3 p' c' (nd d i).ents := hs.keepS (Keeps.refl NoB w3) (fun _ _ _ h => h) (fun g hg _ => HC2.out.rep.top g hg)
    have hC3 := HC2.out.keep hk3 (fun _ _ h => h.elim)
    have hT3 := HT2.out.trans (Turn.ofN (R := { R with kv := kvDel R.kv i }) hk3)
    have HC3 := Lib.hid hC3
    have HT3 := Lib.hid hT3
    have HS0 := Lib.hid hs0
    have hcap := hs.cap
    clear hC3 hT3 hs0 ho hs hk3 HC2 HT2 HL
    go_loopw [6, 52] (fun _ x wr => ∃ (k : Nat) (R' : RD) (d' : Nds) (lk' up' : Int -> Int), k <= (nd d i).ents.length ∧ x = .int .i64 k ∧ Casc R' wr a d' room lk' up' (pendL pend ((nd d i).ents.drop k)) ∧
     (∀ j, ¬ PG d' (pendL pend ((nd d i).ents.drop k)) j) ∧ Kills (kill d i) d' ∧ Turn R w R' wr ∧ SlAt encEnt (fun x => R'.tag x = .none) wr p' c' (nd d i).ents) (fun _ x _ => (nd d i).ents.length - (intOf x).toNat)
    case atStart => exact ⟨0, _, _, _, _, Nat.zero_le _, rfl, HC3.out, HN2.out, .refl _, HT3.out, HS0.out⟩
    case round =>
     obtain ⟨k, R', d', lk', up', hk, rfl, hC, hN, hK, hT, hS⟩ := hrel
     have HC := Lib.hid hC
     have HN := Lib.hid hN
     have HK := Lib.hid hK
     have HT := Lib.hid hT
     have HSl := Lib.hid hS
     clear hC hN hK hT
     by_cases hlt : k < (nd d i).ents.length
     ·obtain ⟨x, hx⟩ : ∃ x, (nd d i).ents[k]? = some x := ⟨_, List.getElem?_eq_getElem hlt⟩
      obtain ⟨g, off, rfl, hSg, hg, c0, c1⟩ := hS.ent hx
      have hdrop : (nd d i).ents.drop k = x :: (nd d i).ents.drop (k + 1) := by
       obtain ⟨hl, he⟩ := List.getElem?_eq_some_iff.1 hx
       rw [<- he]; exact List.drop_eq_getElem_cons hl
      have HD := Lib.hid hdrop
      have HX := Lib.hid hx
      clear hdrop hx hS
      have hcnt : count d' < n := by
       have := HK.out.count_le
       have := count_kill hi
       omega
      have hl := fun (o : Obj) => Hless.out _ hcnt R' _ a d' room lk' up' (pendL pend ((nd d i).ents.drop k)) x.2 rfl (HC.out.keep ((Keeps.refl NoB _).alloc o) (fun _ _ h => h.elim)) (by
       rw [HD.out]; unfold pendL; rw [List.countP_cons]; simp only [decide_true, if_true]; omega) HN.out
      have HL := Lib.hid hl
      clear hl hcnt
      go_wp2_with (go_at_call 166; go_loud (refine (HL.out _).mono ?_); rintro e w5 ⟨rfl, R'', d'', lk'', up'', h1, h2, h3, h4⟩)
      go_roundw
      case rel =>
       rw [HD.out, decAt_pendL] at h1 h2
       refine ⟨k + 1, R'', d'', lk'', up'', by omega, by go_num, h1, h2, HK.out.trans h3, HT.out.trans ((Turn.ofN ((Keeps.refl NoB _).alloc _)).trans h4), ?_⟩
       exact (HSl.out.keepN ((Keeps.refl NoB _).alloc _)).keepS h4.keeps (fun g hg _ hf => hf hg) (fun g hg hlt => (h4.same g hlt).trans hg)
      case measure => simp [intOf]; omega
     ·have hnil : (nd d i).ents.drop k = [] := List.drop_of_length_le (by omega)
      have hC := HC.out
      have hN := HN.out
      rw [hnil, pendL_nil] at hC hN
      have HC' := Lib.hid hC
      have HN' := Lib.hid hN
      clear hC hN hnil HC HN
      go_wp2
      go_end0
      exact ⟨rfl, R', d', lk', up', HC'.out, HN'.out, .step i hg.garb HK.out, HT.out⟩
theorem free_ok (n : Nat) : FreeOk n := by
 induction n using Nat.strongRecOn with
 | ind n ih => exact free_of_less n fun m hm => less_of_free m (ih m hm)
set_option maxRecDepth 100000
set_option maxHeartbeats 1000000
def relErr (d : Nds) (i : Int) : Int := if (nd d i).kind = 0 then 12 else if (nd d i).holds = 0 then 12 else 0
def relTo (d : Nds) (i : Int) : Nds := upd d i ((nd d i).setHolds ((nd d i).holds - 1))
section
variable {R : RD} {w : World} {a : Nat} {d : Nds} {room : Int}
theorem holds_le {d : Nds} (h : smallD d) (i : Int) : (nd d i).holds <= 4294967296 := by
 by_cases hh : 0 <= i ∧ i.toNat < d.length
 ·have h1 := sumBy_ge mass1 hh.1 hh.2
  unfold smallD mass at h
  unfold mass1 at h h1
  omega
 ·rw [nd_gone hh]; decide
theorem NdOk.setHolds {n : Nd} (h : NdOk n) (h0 : n.kind ≠ 0) {x : Int} (hx : 0 <= x) : NdOk (n.setHolds x) :=
 ⟨h.kind0, h.kind3, fun e => absurd e h0, h.mode0, h.mode1, hx, h.data, h.dirs, h.flat, h.rising, h.names⟩
theorem release_any (h : IsDisk R w a d room) (i : Int) :
 Calls Tryz.prog 52 #[.pointer (some ⟨a, 0, none⟩), .int .i64 i] w fun e w' => e = .returned (.int .i64 (relErr d i)) ∧ DiskTo R w a (if relErr d i = 0 then gc (relTo d i) else d) room w' := by
 have H := Lib.hid h
 obtain ⟨⟨lk, up, hC⟩, hcl, hfit, hmax⟩ := h
 have hl := hC.rep.l
 have hlook := hC.rep.look i
 unfold nodeV at hlook
 unfold relErr
 by_cases hi : has d i
 ·rw [if_pos hi] at hlook
  have hi0 : ¬ (nd d i).kind = 0 := hi
  rw [if_neg hi0]
  have hn := hC.rep.node i hi
  have hk := hn.holds
  have hf := hn.fz 3
  have h0 := (hC.inv.node i).holds
  by_cases hz : (nd d i).holds = 0
  ·rw [if_pos hz, if_neg (by decide)]
   rw [hz] at hk
   clear hC hcl hfit hmax hn h0 hz
   go_enter Tryz.func52, Tryz.ntmps52
   go_wp2
   go_ret
   exact ⟨rfl, H.out.same (Keeps.refl _ _)⟩
  ·rw [if_neg hz, if_pos rfl]
   have hsm := holds_le hC.small i
   have e1 : IntKind.i64.wrap ((nd d i).holds - 1) = (nd d i).holds - 1 := by rw [IntKind.wrap_i64]; omega
   have hR := hC.rep.setHolds hi ((nd d i).holds - 1)
   have hus : used (relTo d i) = used d := by
    have := used_upd (n := (nd d i).setHolds ((nd d i).holds - 1)) hi
    have e : room1 ((nd d i).setHolds ((nd d i).holds - 1)) = room1 (nd d i) := rfl
    unfold relTo
    omega
   have hms : smallD (relTo d i) := by
    have := mass_upd (n := (nd d i).setHolds ((nd d i).holds - 1)) hi
    have e : mass1 ((nd d i).setHolds ((nd d i).holds - 1)) <= mass1 (nd d i) := by unfold mass1; show 1 + ((nd d i).holds - 1).toNat + _ <= _; simp only [Nd.setHolds]; omega
    have := hC.small
    unfold smallD relTo at *
    omega
   have hC2 := hC.upd hi ((hC.inv.node i).setHolds hi (x := (nd d i).holds - 1) (by omega)) rfl rfl (by rw [show used (upd d i ((nd d i).setHolds ((nd d i).holds - 1))) = used d from hus]; exact hR) hms
   have hi2 : has (relTo d i) i := (has_upd (n := (nd d i).setHolds ((nd d i).holds - 1)) hi hi i).2 hi
   have hpg : ∀ j, PG (relTo d i) zp j -> j = i := fun j hj => by
    by_cases e : j = i
    ·exact e
    ·have hr := has_range hi
     obtain ⟨p1, p2, _, p4⟩ := hj
     unfold relTo at p1 p2 p4
     rw [nd_upd hr.1 hr.2, if_neg e] at p4
     rw [links_same (n := (nd d i).setHolds ((nd d i).holds - 1)) hi rfl] at p2
     exact absurd ⟨(has_upd (n := (nd d i).setHolds ((nd d i).holds - 1)) hi hi j).1 p1, p2, p4⟩ (hcl j)
   have hfree := free_ok _ R _ a (relTo d i) room lk up zp i rfl hC2 hi2 hpg
   have HF := Lib.hid hfree
   have HK := Lib.hid ((Keeps.refl R.F w).setCell (p := ⟨R.g i, 3, none⟩) (.inl (hC.rep.fN hi)) (.int .i64 ((nd d i).holds - 1)))
   have HU := Lib.hid (show (used (relTo d i) : Int) <= room by omega)
   have HM := Lib.hid hmax
   clear hfree hpg hi2 hC2 hms hus hR hC hcl hfit hmax hn hsm h0
   generalize (nd d i).holds = x at *
   go_enter Tryz.func52, Tryz.ntmps52
   go_wp2_with (go_at_call 106; refine HF.out.mono ?_; rintro e w1 ⟨rfl, R', d', lk', up', h1, h2, h3, h4⟩)
   go_ret
   exact ⟨rfl, R', free_end h1 h2 h3 HU.out HM.out, (Turn.of HK.out).trans h4⟩
 ·rw [if_neg hi] at hlook
  rw [if_pos (not_has hi), if_neg (by decide)]
  clear hC hcl hfit hmax
  go_enter Tryz.func52, Tryz.ntmps52
  go_wp2
  go_ret
  exact ⟨rfl, H.out.same (Keeps.refl _ _)⟩
theorem noGarb_upd {i : Int} {n : Nd} (hcl : NoGarb d) (hi : has d i) (hk0 : n.kind ≠ 0) (he : n.ents = (nd d i).ents) (hh : n.holds = 0 -> (nd d i).holds = 0) : NoGarb (upd d i n) := by
 intro j hj
 have hr := has_range hi
 obtain ⟨p1, p2, p4⟩ := hj
 rw [links_same hi he] at p2
 refine hcl j ⟨(has_upd hi hk0 j).1 p1, p2, ?_⟩
 rw [nd_upd hr.1 hr.2] at p4
 split at p4
 ·next e => subst e; exact hh p4
 ·exact p4
theorem IsDisk.turn {R' : RD} {w' : World} {lk up : Int -> Int} {i : Int} {n : Nd} (hC : Casc R w a d room lk up zp) (hcl : NoGarb d) (hi : has d i) (hok : NdOk n) (hk : n.kind = (nd d i).kind) (he : n.ents = (nd d i).ents)
 (hh : n.holds = 0 -> (nd d i).holds = 0) (rep : Rep R' w' a (upd d i n) room (used (upd d i n)) lk up) (hs : smallD (upd d i n)) (hf : (used (upd d i n) : Int) <= room) (hm : room <= 9223372036854775807) : IsDisk R' w' a (upd d i n) room :=
 ⟨⟨lk, up, hC.upd hi hok hk he rep hs⟩, noGarb_upd hcl hi (by rw [hk]; exact hi) he hh, hf, hm⟩
end
set_option maxRecDepth 100000
set_option maxHeartbeats 1000000
section
variable {R : RD} {w : World} {a : Nat} {d : Nds} {room us : Int} {lk up : Int -> Int}
def sizeOf4 (n : Nd) : Nat := if n.kind = 2 then n.ents.length else n.data.size
def infoV (n : Nd) (lk : Int) : Value := .agg #[.int .i64 n.kind, .int .i64 n.mode, .int .i64 lk, .int .i64 n.holds, .int .i64 (sizeOf4 n)]
def noInfo : Value := .agg #[.int .i64 0, .int .i64 0, .int .i64 0, .int .i64 0, .int .i64 0]
theorem info_any (h : Rep R w a d room us lk up) (i : Int) :
 Calls Tryz.prog 64 #[.pointer (some ⟨a, 0, none⟩), .int .i64 i] w fun e w' => e = .returned (.tuple #[if has d i then infoV (nd d i) (lk i) else noInfo, .int .i64 (if has d i then 0 else 12)]) ∧ Keeps NoB w w' := by
 have hl := h.l
 have hlook := (h.keepN ((Keeps.refl NoB w).alloc (.cells #[.int .i64 0, .int .i64 0, .int .i64 0, .int .i64 0, .int .i64 0] 63))).look i
 unfold nodeV at hlook
 have hlt := h.alt
 by_cases hi : has d i
 ·rw [if_pos hi] at hlook
  rw [if_pos hi, if_pos hi]
  have hn := h.node i hi
  have c0 := hn.kind
  have c1 := hn.mode
  have c2 := hn.links
  have c3 := hn.holds
  have c4 := hn.data
  obtain ⟨p, cap, hv⟩ := hn.own.form
  rw [hv] at c4
  have hlen := fun wx (hx : Keeps NoB w wx) => len_any (fun _ => True) wx ⟨R.g i, 5, none⟩ (R.ev i) (nd d i).ents ((hn.dir.keep hx (fun h => h) (fun _ _ h => h)).any (fun _ _ => trivial))
  have HL := Lib.hid hlen
  unfold infoV sizeOf4
  generalize (nd d i).data.size = ds at *
  generalize (nd d i).ents.length = es at *
  generalize (nd d i).mode = m at *
  generalize (nd d i).holds = hh at *
  generalize lk i = l at *
  have hgl := hn.lt
  clear hn h hv hlen
  by_cases h2 : (nd d i).kind = 2
  ·rw [if_pos h2]
   rw [h2] at c0 ⊢
   clear h2
   go_enter Tryz.func64, Tryz.ntmps64
   go_wp2_with (go_at_call 129; refine (HL.out _ ?_).mono ?_; (exact (Keeps.refl _ _).alloc _); rintro e w1 ⟨rfl, rfl⟩)
   go_region
   all_goals go_wp2
   all_goals (try simp only [Exit.inBlock, Exit.then])
   all_goals refine bodyPost_ret (v := .tuple #[.agg #[.int .i64 2, .int .i64 m, .int .i64 l, .int .i64 hh, .int .i64 es], .int .i64 0]) ?_ rfl ⟨rfl, ?_⟩
   all_goals first | (rw [results_cell_tmp rfl]; go_simp) | skip
   all_goals exact ((Keeps.refl _ _).alloc _).drew
  ·rw [if_neg h2]
   generalize (nd d i).kind = kd at *
   go_enter Tryz.func64, Tryz.ntmps64
   go_wp2
   go_region
   all_goals go_wp2
   all_goals (try simp only [Exit.inBlock, Exit.then])
   all_goals refine bodyPost_ret (v := .tuple #[.agg #[.int .i64 kd, .int .i64 m, .int .i64 l, .int .i64 hh, .int .i64 ds], .int .i64 0]) ?_ rfl ⟨rfl, ?_⟩
   all_goals first | (rw [results_cell_tmp rfl]; go_simp) | skip
   all_goals exact ((Keeps.refl _ _).alloc _).drew
 ·rw [if_neg hi] at hlook
  rw [if_neg hi, if_neg hi]
  go_enter Tryz.func64, Tryz.ntmps64
  go_wp2
  (try simp only [Exit.inBlock, Exit.then])
  refine bodyPost_ret (v := .tuple #[noInfo, .int .i64 12]) ?_ rfl ⟨rfl, ?_⟩
  ·rw [results_cell_tmp rfl]; unfold noInfo; go_simp
  ·exact (Keeps.refl _ _).alloc _
end
end Go.Proofs.YtnaenhekjdmlaaaGreatDoor
set_option maxRecDepth 100000
namespace Go.Proofs.YtnaenhekjdmlaaaGreatDoor
structure Plc where
 node : Int
 dir : Int
 name : ByteArray
def Plc.no : Plc := ⟨0, 0, ⟨#[]⟩⟩
def Plc.on (i : Int) : Plc := ⟨i, 0, ⟨#[]⟩⟩
def plcV (p : Plc) : Value := .agg #[.int .i64 p.node, .int .i64 p.dir, .string p.name]
def intoErr (d : Nds) (i : Int) : Int := if folderErr d i ≠ 0 then folderErr d i else if (nd d i).mode / 64 % 2 = 0 then 19 else 0
structure StepR where
 p : Plc
 t : ByteArray
 e : Int
 n : Nat
abbrev dotB : ByteArray := ⟨#[46]⟩
abbrev dotsB : ByteArray := ⟨#[46, 46]⟩
def stepR (d : Nds) (up : Int -> Int) (at' : Int) (x : ByteArray) (follow : Bool) (n : Nat) : StepR :=
 if intoErr d at' ≠ 0 then ⟨.no, ⟨#[]⟩, intoErr d at', n⟩
 else if x = dotB then ⟨.on at', ⟨#[]⟩, 0, n⟩
 else if x = dotsB then ⟨.on (up at'), ⟨#[]⟩, 0, n⟩
 else if 255 < x.size then ⟨.no, ⟨#[]⟩, 18, n⟩
 else if lookErr d at' x ≠ 0 ∨ follow = false then ⟨⟨lookOf d at' x, at', x⟩, ⟨#[]⟩, 0, n⟩
 else if (nd d (lookOf d at' x)).kind ≠ 3 then ⟨⟨lookOf d at' x, at', x⟩, ⟨#[]⟩, 0, n⟩
 else if 40 < n + 1 then ⟨.no, ⟨#[]⟩, 17, n + 1⟩
 else ⟨⟨lookOf d at' x, at', x⟩, dataOf d (lookOf d at' x), 0, n + 1⟩
def restB (t : ByteArray) (l : List ByteArray) (slash : Bool) : ByteArray :=
 if slash && !endS (l.foldl joinB t) then l.foldl joinB t ++ slashB else l.foldl joinB t
inductive Out where
 | fin (p : Plc)
 | err (e : Int)
 | again (at' : Int) (s : ByteArray) (n : Nat)
def scan (d : Nds) (up : Int -> Int) (slash follow : Bool) : List ByteArray -> Int -> Nat -> Plc -> Out
 | [], _, _, p => .fin p
 | x :: r, at', n, _ =>
   let q := stepR d up at' x (!r.isEmpty || slash || follow) n
   if q.e ≠ 0 then .err q.e
   else if q.t ≠ ⟨#[]⟩ then .again at' (restB q.t r slash) q.n
   else if q.p.node = 0 ∧ r ≠ [] then .err 12
   else scan d up slash follow r q.p.node q.n q.p
def endR (d : Nds) (p : Plc) (slash : Bool) : Plc × Int :=
 if slash = false ∨ p.node = 0 then (p, 0) else if (nd d p.node).kind ≠ 2 then (.no, 14) else (p, 0)
def pathErr (s : ByteArray) : Int := if s = ⟨#[]⟩ then 12 else if 4095 < s.size then 18 else if 0 <= bIdx s 0 then 11 else 0
def findR (d : Nds) (up : Int -> Int) (follow : Bool) : Nat -> Int -> ByteArray -> Nat -> Plc × Int
 | 0, _, _, _ => (.no, 17)
 | fuel + 1, from', s, n =>
   if pathErr s ≠ 0 then (.no, pathErr s)
   else if prts s = [] then (.on (if absB s then 1 else from'), intoErr d (if absB s then 1 else from'))
   else match scan d up (endS s) follow (prts s) (if absB s then 1 else from') n (.on from') with
    | .fin p => endR d p (endS s)
    | .err e => (.no, e)
    | .again at' s' n' => findR d up follow fuel at' s' n'
theorem stepR_n (d : Nds) (up : Int -> Int) (at' : Int) (x : ByteArray) (follow : Bool) (n : Nat) :
 n <= (stepR d up at' x follow n).n ∧ ((stepR d up at' x follow n).e = 0 -> (stepR d up at' x follow n).t ≠ ⟨#[]⟩ -> (stepR d up at' x follow n).n = n + 1 ∧ n + 1 <= 40) ∧ ((stepR d up at' x follow n).e = 0 -> n <= 40 -> (stepR d up at' x follow n).n <= 40) := by
 unfold stepR
 split
 ·exact ⟨Nat.le_refl _, fun h => absurd h (by assumption), fun h _ => absurd h (by assumption)⟩
 split
 ·exact ⟨Nat.le_refl _, fun _ h => absurd rfl h, fun _ h => h⟩
 split
 ·exact ⟨Nat.le_refl _, fun _ h => absurd rfl h, fun _ h => h⟩
 split
 ·exact ⟨Nat.le_refl _, fun h => absurd h (show ¬ (18 : Int) = 0 by decide), fun h => absurd h (show ¬ (18 : Int) = 0 by decide)⟩
 split
 ·exact ⟨Nat.le_refl _, fun _ h => absurd rfl h, fun _ h => h⟩
 split
 ·exact ⟨Nat.le_refl _, fun _ h => absurd rfl h, fun _ h => h⟩
 split
 ·exact ⟨Nat.le_succ _, fun h => absurd h (show ¬ (17 : Int) = 0 by decide), fun h => absurd h (show ¬ (17 : Int) = 0 by decide)⟩
 ·exact ⟨Nat.le_succ _, fun _ _ => ⟨rfl, by omega⟩, fun _ _ => by show n + 1 <= 40; omega⟩
theorem joinB_size (a b : ByteArray) : (joinB a b).size <= a.size + b.size + 1 := by
 unfold joinB
 split
 ·omega
 split
 ·rw [ByteArray.size_append]; omega
 ·rw [ByteArray.size_append, ByteArray.size_append]
  show a.size + 1 + b.size <= _
  omega
theorem fold_size (l : List ByteArray) (m : Nat) (hl : ∀ x ∈ l, x.size <= m) : ∀ t : ByteArray, (l.foldl joinB t).size <= t.size + l.length * (m + 1) := by
 induction l with
 | nil => intro t; simp
 | cons x r ih =>
   intro t
   have h1 := ih (fun y hy => hl y (by simp [hy])) (joinB t x)
   have h2 := joinB_size t x
   have h3 := hl x (by simp)
   rw [List.foldl_cons, List.length_cons, Nat.succ_mul]
   omega
theorem restB_size (t : ByteArray) (l : List ByteArray) (slash : Bool) (m : Nat) (hl : ∀ x ∈ l, x.size <= m) : (restB t l slash).size <= t.size + l.length * (m + 1) + 1 := by
 have := fold_size l m hl t
 unfold restB
 split
 ·rw [ByteArray.size_append]
  show _ + 1 <= _
  omega
 ·omega
noncomputable def upC (d : Nds) (i : Int) : Int := if i = 1 then 1 else @dite _ (∃ j, Par d j i) (Classical.propDecidable _) (fun h => Classical.choose h) (fun _ => 0)
theorem upC_par {d : Nds} (hI : DInv d) {i j : Int} (h1 : i ≠ 1) (h : Par d j i) (par_one : ∀ {i j j' : Int}, Par d j i -> Par d j' i -> j = j') : upC d i = j := by
 unfold upC
 rw [if_neg h1, dif_pos ⟨j, h⟩]
 exact par_one (Classical.choose_spec (⟨j, h⟩ : ∃ j, Par d j i)) h
theorem upC_none {d : Nds} {i : Int} (h1 : i ≠ 1) (h : ¬ ∃ j, Par d j i) : upC d i = 0 := by
 unfold upC
 rw [if_neg h1, dif_neg h]
def UpEq (d : Nds) (up up' : Int -> Int) : Prop := ∀ i, folderErr d i = 0 -> up i = up' i
section
variable {d : Nds} {up up' : Int -> Int}
theorem stepR_up (h : UpEq d up up') (at' : Int) (x : ByteArray) (fl : Bool) (n : Nat) : stepR d up at' x fl n = stepR d up' at' x fl n := by
 unfold stepR
 by_cases hi : intoErr d at' ≠ 0
 ·rw [if_pos hi, if_pos hi]
 ·have h0 : intoErr d at' = 0 := Classical.not_not.1 hi
  have hf : folderErr d at' = 0 := by
   unfold intoErr at h0
   exact Classical.byContradiction fun hf => by rw [if_pos hf] at h0; exact hf h0
  rw [if_neg hi, if_neg hi, h at' hf]
theorem scan_up (h : UpEq d up up') (slash follow : Bool) : ∀ (l : List ByteArray) (at' : Int) (n : Nat) (p : Plc), scan d up slash follow l at' n p = scan d up' slash follow l at' n p
 | [], _, _, _ => rfl
 | x :: r, at', n, p => by
   unfold scan
   rw [stepR_up h]
   simp only [scan_up h slash follow r]
theorem find_up (h : UpEq d up up') (follow : Bool) : ∀ (fuel : Nat) (from' : Int) (s : ByteArray) (n : Nat), findR d up follow fuel from' s n = findR d up' follow fuel from' s n
 | 0, _, _, _ => rfl
 | fuel + 1, from', s, n => by
   unfold findR
   rw [scan_up h]
   simp only [find_up h follow fuel]
end
end Go.Proofs.YtnaenhekjdmlaaaGreatDoor
