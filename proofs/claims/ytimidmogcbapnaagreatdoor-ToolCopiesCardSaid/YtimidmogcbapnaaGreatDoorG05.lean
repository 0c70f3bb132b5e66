/-
  Contracts of package disk, the fifth part: Hold, Release, Chmod, Empty on a disk at rest.
-/
import Derived.Test.YtimidmogcbapnaaGreatDoorG03
import Derived.Test.YtimidmogcbapnaaGreatDoorG04
import Derived.Handy
import Derived.Laws.ResultCell
import Derived.Test.YtimidmogcbapnaaGreatDoorG01

set_option linter.unusedSimpArgs false
set_option linter.unusedVariables false
namespace Go.Proofs.YtimidmogcbapnaaGreatDoor
open Go.RowKit
set_option maxRecDepth 100000
set_option maxHeartbeats 1000000
def relErr (d : Nds) (i : Int) : Int := if (nd d i).kind = 0 then 12 else if (nd d i).holds = 0 then 12 else 0
def relTo (d : Nds) (i : Int) : Nds := upd d i ((nd d i).setHolds ((nd d i).holds - 1))
def holdTo (d : Nds) (i : Int) : Nds := upd d i ((nd d i).setHolds ((nd d i).holds + 1))
def chmodTo (d : Nds) (i m : Int) : Nds := upd d i ((nd d i).setMode m)
def emptyTo (d : Nds) (i : Int) : Nds := upd d i ((nd d i).setData ⟨#[]⟩)
section
variable {R : RD} {w : World} {a : Nat} {d : Nds} {room : Int}
theorem holds_le {d : Nds} (h : smallD d) (i : Int) : (nd d i).holds <= 4294967296 := by
 by_cases hh : 0 <= i ∧ i.toNat < d.length
 ·have h1 := sumBy_ge mass1 hh.1 hh.2
  unfold smallD mass at h
  unfold mass1 at h h1
  omega
 ·rw [nd_gone hh]; decide
theorem NdOk.setHolds {n : Nd} (h : NdOk n) (h0 : n.kind ≠ 0) {x : Int} (hx : 0 <= x) : NdOk (n.setHolds x) :=
 ⟨h.kind0, h.kind3, fun e => absurd e h0, h.mode0, h.mode1, hx, h.data, h.dirs, h.flat, h.rising, h.names⟩
theorem NdOk.setMode {n : Nd} (h : NdOk n) (h0 : n.kind ≠ 0) {x : Int} (hx : okMode x = true) : NdOk (n.setMode x) := by
 simp [okMode] at hx
 exact ⟨h.kind0, h.kind3, fun e => absurd e h0, hx.1, hx.2, h.holds, h.data, h.dirs, h.flat, h.rising, h.names⟩
theorem NdOk.setData {n : Nd} (h : NdOk n) (h0 : n.kind ≠ 0) (h2 : n.kind ≠ 2) {s : ByteArray} (hs : s.size <= 4194304) : NdOk (n.setData s) :=
 ⟨h.kind0, h.kind3, fun e => absurd e h0, h.mode0, h.mode1, h.holds, hs, fun e => absurd e h2, h.flat, h.rising, h.names⟩
theorem release_any (h : IsDisk R w a d room) (i : Int) :
 Calls Tryz.prog 25 #[.pointer (some ⟨a, 0, none⟩), .int .i64 i] w fun e w' => e = .returned (.int .i64 (relErr d i)) ∧ DiskTo R w a (if relErr d i = 0 then gc (relTo d i) else d) room w' := by
 have H := Lib.hid h
 obtain ⟨⟨lk, up, hC⟩, hcl, hfit, hmax⟩ := h
 have hl := hC.rep.l
 have hlook := hC.rep.look i
 unfold nodeV at hlook
 unfold relErr
 by_cases hi : has d i
 ·rw [if_pos hi] at hlook
  have hi0 : ¬ (nd d i).kind = 0 := hi
  rw [if_neg hi0]
  have hn := hC.rep.node i hi
  have hk := hn.holds
  have hf := hn.fz 3
  have h0 := (hC.inv.node i).holds
  by_cases hz : (nd d i).holds = 0
  ·rw [if_pos hz, if_neg (by decide)]
   rw [hz] at hk
   clear hC hcl hfit hmax hn h0 hz
   go_enter Tryz.func25, Tryz.ntmps25
   go_wp2
   go_ret
   exact ⟨rfl, H.out.same (Keeps.refl _ _)⟩
  ·rw [if_neg hz, if_pos rfl]
   have hsm := holds_le hC.small i
   have e1 : IntKind.i64.wrap ((nd d i).holds - 1) = (nd d i).holds - 1 := by rw [IntKind.wrap_i64]; omega
   have hR := hC.rep.setHolds hi ((nd d i).holds - 1)
   have hus : used (relTo d i) = used d := by
    have := used_upd (n := (nd d i).setHolds ((nd d i).holds - 1)) hi
    have e : room1 ((nd d i).setHolds ((nd d i).holds - 1)) = room1 (nd d i) := rfl
    unfold relTo
    omega
   have hms : smallD (relTo d i) := by
    have := mass_upd (n := (nd d i).setHolds ((nd d i).holds - 1)) hi
    have e : mass1 ((nd d i).setHolds ((nd d i).holds - 1)) <= mass1 (nd d i) := by unfold mass1; show 1 + ((nd d i).holds - 1).toNat + _ <= _; simp only [Nd.setHolds]; omega
    have := hC.small
    unfold smallD relTo at *
    omega
   have hC2 := hC.upd hi ((hC.inv.node i).setHolds hi (x := (nd d i).holds - 1) (by omega)) rfl rfl (by rw [show used (upd d i ((nd d i).setHolds ((nd d i).holds - 1))) = used d from hus]; exact hR) hms
   have hi2 : has (relTo d i) i := (has_upd (n := (nd d i).setHolds ((nd d i).holds - 1)) hi hi i).2 hi
   have hpg : ∀ j, PG (relTo d i) zp j -> j = i := fun j hj => by
    by_cases e : j = i
    ·exact e
    ·have hr := has_range hi
     obtain ⟨p1, p2, _, p4⟩ := hj
     unfold relTo at p1 p2 p4
     rw [nd_upd hr.1 hr.2, if_neg e] at p4
     rw [links_same (n := (nd d i).setHolds ((nd d i).holds - 1)) hi rfl] at p2
     exact absurd ⟨(has_upd (n := (nd d i).setHolds ((nd d i).holds - 1)) hi hi j).1 p1, p2, p4⟩ (hcl j)
   have hfree := free_ok _ R _ a (relTo d i) room lk up zp i rfl hC2 hi2 hpg
   have HF := Lib.hid hfree
   have HK := Lib.hid ((Keeps.refl R.F w).setCell (p := ⟨R.g i, 3, none⟩) (.inl (hC.rep.fN hi)) (.int .i64 ((nd d i).holds - 1)))
   have HU := Lib.hid (show (used (relTo d i) : Int) <= room by omega)
   have HM := Lib.hid hmax
   clear hfree hpg hi2 hC2 hms hus hR hC hcl hfit hmax hn hsm h0
   generalize (nd d i).holds = x at *
   go_enter Tryz.func25, Tryz.ntmps25
   go_wp2_with (go_at_call 56; refine HF.out.mono ?_; rintro e w1 ⟨rfl, R', d', lk', up', h1, h2, h3, h4⟩)
   go_ret
   exact ⟨rfl, R', free_end h1 h2 h3 HU.out HM.out, (Turn.of HK.out).trans h4⟩
 ·rw [if_neg hi] at hlook
  rw [if_pos (not_has hi), if_neg (by decide)]
  clear hC hcl hfit hmax
  go_enter Tryz.func25, Tryz.ntmps25
  go_wp2
  go_ret
  exact ⟨rfl, H.out.same (Keeps.refl _ _)⟩
theorem noGarb_upd {i : Int} {n : Nd} (hcl : NoGarb d) (hi : has d i) (hk0 : n.kind ≠ 0) (he : n.ents = (nd d i).ents) (hh : n.holds = 0 -> (nd d i).holds = 0) : NoGarb (upd d i n) := by
 intro j hj
 have hr := has_range hi
 obtain ⟨p1, p2, p4⟩ := hj
 rw [links_same hi he] at p2
 refine hcl j ⟨(has_upd hi hk0 j).1 p1, p2, ?_⟩
 rw [nd_upd hr.1 hr.2] at p4
 split at p4
 ·next e => subst e; exact hh p4
 ·exact p4
theorem IsDisk.turn {R' : RD} {w' : World} {lk up : Int -> Int} {i : Int} {n : Nd} (hC : Casc R w a d room lk up zp) (hcl : NoGarb d) (hi : has d i) (hok : NdOk n) (hk : n.kind = (nd d i).kind) (he : n.ents = (nd d i).ents)
 (hh : n.holds = 0 -> (nd d i).holds = 0) (rep : Rep R' w' a (upd d i n) room (used (upd d i n)) lk up) (hs : smallD (upd d i n)) (hf : (used (upd d i n) : Int) <= room) (hm : room <= 9223372036854775807) : IsDisk R' w' a (upd d i n) room :=
 ⟨⟨lk, up, hC.upd hi hok hk he rep hs⟩, noGarb_upd hcl hi (by rw [hk]; exact hi) he hh, hf, hm⟩
theorem holdD_any (h : IsDisk R w a d room) (i : Int) (hb : mass d + 1 <= 2147483648) :
 Calls Tryz.prog 53 #[.pointer (some ⟨a, 0, none⟩), .int .i64 i] w fun e w' => e = .returned (.int .i64 (if has d i then 0 else 12)) ∧ DiskTo R w a (if has d i then holdTo d i else d) room w' := by
 obtain ⟨⟨lk, up, hC⟩, hcl, hfit, hmax⟩ := h
 have h0 := (hC.inv.node i).holds
 have hsm := holds_le hC.small i
 refine (hold_any hC.rep i (by omega) h0).mono fun e w' ⟨h1, h2, h3⟩ => ⟨h1, R, ?_, Turn.of h3⟩
 by_cases hi : has d i
 ·rw [if_pos hi] at h2 ⊢
  have hus : used (holdTo d i) = used d := by
   have := used_upd (n := (nd d i).setHolds ((nd d i).holds + 1)) hi
   have e : room1 ((nd d i).setHolds ((nd d i).holds + 1)) = room1 (nd d i) := rfl
   unfold holdTo
   omega
  have hms : smallD (holdTo d i) := by
   have := mass_upd (n := (nd d i).setHolds ((nd d i).holds + 1)) hi
   have e : mass1 ((nd d i).setHolds ((nd d i).holds + 1)) <= mass1 (nd d i) + 1 := by unfold mass1; simp only [Nd.setHolds]; omega
   unfold smallD holdTo at *
   omega
  refine IsDisk.turn hC hcl hi ((hC.inv.node i).setHolds hi (by omega)) rfl rfl (fun e => ?_) ?_ hms ?_ hmax
  ·simp only [Nd.setHolds] at e; omega
  ·rw [show used (upd d i ((nd d i).setHolds ((nd d i).holds + 1))) = used d from hus]; exact h2
  ·rw [show used (upd d i ((nd d i).setHolds ((nd d i).holds + 1))) = used d from hus]; exact hfit
 ·rw [if_neg hi] at h2 ⊢
  exact ⟨⟨lk, up, ⟨h2, hC.inv, hC.cnt, hC.pres, hC.upok, hC.small, hC.lkb⟩⟩, hcl, hfit, hmax⟩
theorem chmodD_any (h : IsDisk R w a d room) (i m : Int) :
 Calls Tryz.prog 27 #[.pointer (some ⟨a, 0, none⟩), .int .i64 i, .int .i64 m] w fun e w' => e = .returned (.int .i64 (chmodErr d i m)) ∧ DiskTo R w a (if chmodErr d i m = 0 then chmodTo d i m else d) room w' := by
 obtain ⟨⟨lk, up, hC⟩, hcl, hfit, hmax⟩ := h
 refine (chmod_any hC.rep i m).mono fun e w' ⟨h1, h2, h3⟩ => ⟨h1, R, ?_, Turn.of h3⟩
 by_cases hi : chmodErr d i m = 0
 ·rw [if_pos hi] at h2 ⊢
  have hh : has d i ∧ okMode m = true := by
   unfold chmodErr at hi
   split at hi
   ·cases hi
   ·next h0 => split at hi
               ·next h1 => exact ⟨h0, h1⟩
               ·cases hi
  have hus : used (chmodTo d i m) = used d := by
   have := used_upd (n := (nd d i).setMode m) hh.1
   have e : room1 ((nd d i).setMode m) = room1 (nd d i) := rfl
   unfold chmodTo
   omega
  have hms : smallD (chmodTo d i m) := by
   have := mass_upd (n := (nd d i).setMode m) hh.1
   have e : mass1 ((nd d i).setMode m) = mass1 (nd d i) := rfl
   have := hC.small
   unfold smallD chmodTo at *
   omega
  refine IsDisk.turn hC hcl hh.1 ((hC.inv.node i).setMode hh.1 hh.2) rfl rfl (fun e => e) ?_ hms ?_ hmax
  ·rw [show used (upd d i ((nd d i).setMode m)) = used d from hus]; exact h2
  ·rw [show used (upd d i ((nd d i).setMode m)) = used d from hus]; exact hfit
 ·rw [if_neg hi] at h2 ⊢
  exact ⟨⟨lk, up, ⟨h2, hC.inv, hC.cnt, hC.pres, hC.upok, hC.small, hC.lkb⟩⟩, hcl, hfit, hmax⟩
theorem fileErr_zero {d : Nds} {i : Int} (h : fileErr d i = 0) : has d i ∧ (nd d i).kind = 1 := by
 unfold fileErr at h
 split at h
 ·cases h
 ·next h0 =>
  split at h
  ·cases h
  ·split at h
   ·next h1 => exact ⟨h0, h1⟩
   ·cases h
theorem empty_any (h : IsDisk R w a d room) (i : Int) :
 Calls Tryz.prog 52 #[.pointer (some ⟨a, 0, none⟩), .int .i64 i] w fun e w' => e = .returned (.int .i64 (fileErr d i)) ∧ DiskTo R w a (if fileErr d i = 0 then emptyTo d i else d) room w' := by
 have H := Lib.hid h
 obtain ⟨⟨lk, up, hC⟩, hcl, hfit, hmax⟩ := h
 have hf := file_any hC.rep i
 by_cases he : fileErr d i = 0
 ·obtain ⟨hi, hk1⟩ := fileErr_zero he
  rw [he] at hf ⊢
  rw [if_pos rfl]
  have hp : ptrIf R 0 i = .pointer (some ⟨R.g i, 0, none⟩) := rfl
  rw [hp] at hf
  have hn := hC.rep.node i hi
  have hu := hC.rep.used
  have hfu := hC.rep.fz 2
  have hfd := hn.fz 4
  obtain ⟨p, cap, hv⟩ := hn.own.form
  have hd4 := hn.data
  rw [hv] at hd4
  have hroom : room1 (nd d i) <= used d := sumBy_ge room1 (has_range hi).1 (has_range hi).2
  have hul := used_le hC.inv
  have hsm := hC.small
  unfold smallD at hsm
  have hents : (nd d i).ents = [] := (hC.inv.node i).flat (by rw [hk1]; decide)
  have hr1 : room1 (nd d i) = (nd d i).data.size := by unfold room1; rw [hents]; rfl
  have e2 : IntKind.i64.wrap ((used d : Int) - ((nd d i).data.size : Int)) = (used d : Int) - ((nd d i).data.size : Int) := by rw [IntKind.wrap_i64]; omega
  have hus : (used (emptyTo d i) : Int) = (used d : Int) - ((nd d i).data.size : Int) := by
   have := used_upd (n := (nd d i).setData ⟨#[]⟩) hi
   have e : room1 ((nd d i).setData ⟨#[]⟩) = 0 := by unfold room1; simp only [Nd.setData, hents]; rfl
   unfold emptyTo
   omega
  have hms : smallD (emptyTo d i) := by
   have := mass_upd (n := (nd d i).setData ⟨#[]⟩) hi
   have e : mass1 ((nd d i).setData ⟨#[]⟩) = mass1 (nd d i) := rfl
   unfold smallD emptyTo at *
   omega
  have hap : ¬ a = R.g i := fun e => by have := hC.rep.tagN i hi; rw [<- e, hC.rep.tagA] at this; cases this
  -- the two stores
  have hR1 := hC.rep.setUsed ((used d : Int) - ((nd d i).data.size : Int))
  obtain ⟨R', hR2, hT, _, _, _⟩ := hR1.setData hi (Keeps.refl _ _) (OwnB.nil _ _) (fun x hx => by simp [Value.ownBlock] at hx)
  have hend := Lib.hid (show DiskTo R w a (emptyTo d i) room ((w.setCell ⟨a, 2, none⟩ (.int .i64 ((used d : Int) - ((nd d i).data.size : Int)))).setCell ⟨R.g i, 4, none⟩ (.slice none 0 0)) from
   ⟨R', IsDisk.turn hC hcl hi ((hC.inv.node i).setData hi (by rw [hk1]; decide) (by decide)) rfl rfl (fun e => e) (by rw [show (used (upd d i ((nd d i).setData ⟨#[]⟩)) : Int) = _ from hus]; exact hR2) hms (by rw [show (used (upd d i ((nd d i).setData ⟨#[]⟩)) : Int) = _ from hus]; omega) hmax,
     (Turn.of ((Keeps.refl R.F w).setCell (p := ⟨a, 2, none⟩) (.inl hC.rep.fA) _)).trans hT⟩)
  clear hR1 hR2 hT hms hus hr1 hents hsm hul hroom hv hn hC hcl hfit hmax H hk1
  generalize (nd d i).data.size = ds at *
  generalize used d = u at *
  go_enter Tryz.func52, Tryz.ntmps52
  go_wp2_with (go_at_call 54; refine hf.mono ?_; rintro e w1 ⟨rfl, rfl⟩)
  go_region
  all_goals go_wp2
  all_goals go_ret
  all_goals exact ⟨rfl, hend.out.drew⟩
 ·rw [if_neg he]
  have hp : ptrIf R (fileErr d i) i = .pointer none := if_neg he
  rw [hp] at hf
  clear hC hcl hfit hmax
  generalize fileErr d i = er at hf he
  go_enter Tryz.func52, Tryz.ntmps52
  go_wp2_with (go_at_call 54; refine hf.mono ?_; rintro e w1 ⟨rfl, rfl⟩)
  go_ret
  exact ⟨rfl, H.out.same (Keeps.refl _ _)⟩
end
set_option maxRecDepth 100000
set_option maxHeartbeats 1000000
section
variable {R : RD} {w : World} {a : Nat} {d : Nds} {room us : Int} {lk up : Int -> Int}
def sizeOf4 (n : Nd) : Nat := if n.kind = 2 then n.ents.length else n.data.size
def infoV (n : Nd) (lk : Int) : Value := .agg #[.int .i64 n.kind, .int .i64 n.mode, .int .i64 lk, .int .i64 n.holds, .int .i64 (sizeOf4 n)]
def noInfo : Value := .agg #[.int .i64 0, .int .i64 0, .int .i64 0, .int .i64 0, .int .i64 0]
theorem info_any (h : Rep R w a d room us lk up) (i : Int) :
 Calls Tryz.prog 37 #[.pointer (some ⟨a, 0, none⟩), .int .i64 i] w fun e w' => e = .returned (.tuple #[if has d i then infoV (nd d i) (lk i) else noInfo, .int .i64 (if has d i then 0 else 12)]) ∧ Keeps NoB w w' := by
 have hl := h.l
 have hlook := (h.keepN ((Keeps.refl NoB w).alloc (.cells #[.int .i64 0, .int .i64 0, .int .i64 0, .int .i64 0, .int .i64 0] 42))).look i
 unfold nodeV at hlook
 have hlt := h.alt
 by_cases hi : has d i
 ·rw [if_pos hi] at hlook
  rw [if_pos hi, if_pos hi]
  have hn := h.node i hi
  have c0 := hn.kind
  have c1 := hn.mode
  have c2 := hn.links
  have c3 := hn.holds
  have c4 := hn.data
  obtain ⟨p, cap, hv⟩ := hn.own.form
  rw [hv] at c4
  have hlen := fun wx (hx : Keeps NoB w wx) => len_any (fun _ => True) wx ⟨R.g i, 5, none⟩ (R.ev i) (nd d i).ents ((hn.dir.keep hx (fun h => h) (fun _ _ h => h)).any (fun _ _ => trivial))
  have HL := Lib.hid hlen
  unfold infoV sizeOf4
  generalize (nd d i).data.size = ds at *
  generalize (nd d i).ents.length = es at *
  generalize (nd d i).mode = m at *
  generalize (nd d i).holds = hh at *
  generalize lk i = l at *
  have hgl := hn.lt
  clear hn h hv hlen
  by_cases h2 : (nd d i).kind = 2
  ·rw [if_pos h2]
   rw [h2] at c0 ⊢
   clear h2
   go_enter Tryz.func37, Tryz.ntmps37
   go_wp2_with (go_at_call 81; refine (HL.out _ ?_).mono ?_; (exact (Keeps.refl _ _).alloc _); rintro e w1 ⟨rfl, rfl⟩)
   go_region
   all_goals go_wp2
   all_goals (try simp only [Exit.inBlock, Exit.then])
   all_goals refine bodyPost_ret (v := .tuple #[.agg #[.int .i64 2, .int .i64 m, .int .i64 l, .int .i64 hh, .int .i64 es], .int .i64 0]) ?_ rfl ⟨rfl, ?_⟩
   all_goals first | (rw [results_cell_tmp rfl]; go_simp) | skip
   all_goals exact ((Keeps.refl _ _).alloc _).drew
  ·rw [if_neg h2]
   generalize (nd d i).kind = kd at *
   go_enter Tryz.func37, Tryz.ntmps37
   go_wp2
   go_region
   all_goals go_wp2
   all_goals (try simp only [Exit.inBlock, Exit.then])
   all_goals refine bodyPost_ret (v := .tuple #[.agg #[.int .i64 kd, .int .i64 m, .int .i64 l, .int .i64 hh, .int .i64 ds], .int .i64 0]) ?_ rfl ⟨rfl, ?_⟩
   all_goals first | (rw [results_cell_tmp rfl]; go_simp) | skip
   all_goals exact ((Keeps.refl _ _).alloc _).drew
 ·rw [if_neg hi] at hlook
  rw [if_neg hi, if_neg hi]
  go_enter Tryz.func37, Tryz.ntmps37
  go_wp2
  (try simp only [Exit.inBlock, Exit.then])
  refine bodyPost_ret (v := .tuple #[noInfo, .int .i64 12]) ?_ rfl ⟨rfl, ?_⟩
  ·rw [results_cell_tmp rfl]; unfold noInfo; go_simp
  ·exact (Keeps.refl _ _).alloc _
def readErr (d : Nds) (i at' most : Int) : Int := if dataErr d i ≠ 0 then dataErr d i else if at' < 0 then 10 else if most < 0 then 10 else 0
def cut (s : ByteArray) (at' most : Int) : ByteArray := s.extract (min at'.toNat s.size) (min at'.toNat s.size + min most.toNat (s.size - min at'.toNat s.size))
def readOf (d : Nds) (i at' most : Int) : ByteArray := if readErr d i at' most = 0 then cut (dataOf d i) at' most else ⟨#[]⟩
theorem read_any (h : Rep R w a d room us lk up) (i x y : Int) (hs : (dataOf d i).size <= 4194304) :
 Calls Tryz.prog 138 #[.pointer (some ⟨a, 0, none⟩), .int .i64 i, .int .i64 x, .int .i64 y] w fun e w' => e = .returned (.tuple #[.string (readOf d i x y), .int .i64 (readErr d i x y)]) ∧ w = w' := by
 have hd := data_any h i
 clear h
 by_cases he : dataErr d i = 0
 ·rw [he] at hd
  by_cases h1 : x < 0
  ·have e1 : readErr d i x y = 10 := by simp [readErr, he, h1]
   have e2 : readOf d i x y = ⟨#[]⟩ := by simp [readOf, e1]
   rw [e2, e1]
   go_enter Tryz.func138, Tryz.ntmps138
   go_wp2_with (go_at_call 14; refine hd.mono ?_; rintro e w1 ⟨rfl, rfl⟩)
   go_ret2
   exact ⟨rfl, rfl⟩
  ·by_cases h2 : y < 0
   ·have e1 : readErr d i x y = 10 := by simp [readErr, he, h1, h2]
    have e2 : readOf d i x y = ⟨#[]⟩ := by simp [readOf, e1]
    rw [e2, e1]
    go_enter Tryz.func138, Tryz.ntmps138
    go_wp2_with (go_at_call 14; refine hd.mono ?_; rintro e w1 ⟨rfl, rfl⟩)
    go_ret2
    exact ⟨rfl, rfl⟩
   ·have e1 : readErr d i x y = 0 := by simp [readErr, he, h1, h2]
    have e2 : readOf d i x y = cut (dataOf d i) x y := by simp [readOf, e1]
    rw [e2, e1]
    clear e1 e2 he
    generalize dataOf d i = s at *
    go_enter Tryz.func138, Tryz.ntmps138
    go_wp2_with (go_at_call 14; refine hd.mono ?_; rintro e w1 ⟨rfl, rfl⟩)
    go_ret2
    have a1 : (min x (s.size : Int)).toNat = min x.toNat s.size := by omega
    have a2 : (min x (s.size : Int) + min y ((s.size : Int) - min x (s.size : Int))).toNat = min x.toNat s.size + min y.toNat (s.size - min x.toNat s.size) := by omega
    have hc : s.extract (min x (s.size : Int)).toNat (min x (s.size : Int) + min y ((s.size : Int) - min x (s.size : Int))).toNat = cut s x y := by
     unfold cut
     rw [a1, a2]
    exact ⟨by rw [<- hc]; rfl, rfl⟩
 ·have e1 : readErr d i x y = dataErr d i := by simp [readErr, he]
  have e2 : readOf d i x y = ⟨#[]⟩ := by simp [readOf, e1, he]
  rw [e2, e1]
  clear e1 e2
  generalize dataErr d i = er at *
  generalize dataOf d i = s at *
  go_enter Tryz.func138, Tryz.ntmps138
  go_wp2_with (go_at_call 14; refine hd.mono ?_; rintro e w1 ⟨rfl, rfl⟩)
  go_ret2
  exact ⟨rfl, rfl⟩
end
end Go.Proofs.YtimidmogcbapnaaGreatDoor
set_option maxRecDepth 100000
namespace Go.Proofs.YtimidmogcbapnaaGreatDoor
theorem mem_entPut {es : List Ent} {name : ByteArray} {n : Int} (hno : entHas es name = false) (e : Ent) : e ∈ entPut es name n ↔ e ∈ es ∨ e = (name, n) := by
 have hne : ∀ x ∈ es, x.1 ≠ name := fun x hx e => by
  have : entHas es name = true := List.any_eq_true.2 ⟨x, hx, by simp [e]⟩
  rw [hno] at this; cases this
 unfold entPut
 simp only [List.mem_append, List.mem_filter, List.mem_singleton]
 constructor
 ·rintro ((⟨h, _⟩ | h) | ⟨h, _⟩)
  ·exact .inl h
  ·exact .inr h
  ·exact .inl h
 ·rintro (h | h)
  ·cases h1 : bLt e.1 name with
   | true => exact .inl (.inl ⟨h, rfl⟩)
   | false =>
     cases h2 : bLt name e.1 with
     | true => exact .inr ⟨h, rfl⟩
     | false => exact absurd (bLt_total h1 h2) (hne e h)
  ·exact .inl (.inr h)
theorem entHas_iff {es : List Ent} {name : ByteArray} : entHas es name = true ↔ ∃ e ∈ es, e.1 = name := by simp [entHas]
theorem entGet_isSome (es : List Ent) (name : ByteArray) : (entGet es name).isSome = entHas es name := by
 rw [Bool.eq_iff_iff, entHas_iff]
 simp [entGet]
theorem entGet_none {es : List Ent} {name : ByteArray} (h : entHas es name = false) : entGet es name = none := by
 have := entGet_isSome es name
 rw [h] at this
 simpa using this
theorem entGet_has {es : List Ent} {name : ByteArray} {k : Int} (h : entGet es name = some k) : entHas es name = true := by
 rw [<- entGet_isSome, h]; rfl
theorem entGet_mem {es : List Ent} {name : ByteArray} {k : Int} (h : entGet es name = some k) : (name, k) ∈ es := by
 unfold entGet at h
 rw [Option.map_eq_some_iff] at h
 obtain ⟨e, he, rfl⟩ := h
 have h1 := List.find?_some he
 have h2 := List.mem_of_find?_eq_some he
 have : e.1 = name := by simpa using h1
 subst this
 exact h2
theorem entPut_perm {es : List Ent} {name : ByteArray} {n : Int} (hno : entHas es name = false) : (entPut es name n).Perm ((name, n) :: es) := by
 have hne : ∀ x ∈ es, x.1 ≠ name := fun x hx e => by
  have : entHas es name = true := List.any_eq_true.2 ⟨x, hx, by simp [e]⟩
  rw [hno] at this; cases this
 have hgt : es.filter (fun e => bLt name e.1) = es.filter (fun e => !bLt e.1 name) := by
  refine List.filter_congr fun x hx => ?_
  cases h1 : bLt x.1 name with
  | true => rw [bLt_asymm h1]; rfl
  | false =>
    cases h2 : bLt name x.1 with
    | true => rfl
    | false => exact absurd (bLt_total h1 h2) (hne x hx)
 unfold entPut
 rw [hgt, List.append_assoc]
 refine List.perm_middle.trans (List.Perm.cons _ ?_)
 exact List.filter_append_perm _ _
theorem ent_split {es : List Ent} (h : Rising es) {name : ByteArray} {k : Int} (hk : entGet es name = some k) :
 es[lb es name]? = some (name, k) ∧ es = es.take (lb es name) ++ (name, k) :: es.drop (lb es name + 1) := by
 rw [get_at h] at hk
 cases hl : es[lb es name]? with
 | none => rw [hl] at hk; cases hk
 | some x =>
   rw [hl] at hk
   simp only at hk
   split at hk
   ·next e =>
    cases hk
    have hx : x = (name, x.2) := by rw [<- e]
    refine ⟨by rw [<- hx], ?_⟩
    obtain ⟨h1, h2⟩ := List.getElem?_eq_some_iff.1 hl
    rw [<- hx, <- h2, List.getElem_cons_drop, List.take_append_drop]
   ·cases hk
theorem entDel_perm {es : List Ent} (h : Rising es) {name : ByteArray} {k : Int} (hk : entGet es name = some k) : es.Perm ((name, k) :: entDel es name) := by
 have h2 := (ent_split h hk).2
 have hd := del_at h name (entGet_has hk)
 conv => lhs; rw [h2]
 refine List.perm_middle.trans (List.Perm.cons _ ?_)
 rw [hd]
theorem entSet_perm {es : List Ent} (h : Rising es) {name : ByteArray} {k : Int} (n : Int) (hk : entGet es name = some k) : (entSet es name n).Perm ((name, n) :: entDel es name) := by
 obtain ⟨h1, h2⟩ := ent_split h hk
 have hs := set_at h name n h1 rfl
 have hd := del_at h name (entGet_has hk)
 obtain ⟨hl, _⟩ := List.getElem?_eq_some_iff.1 h1
 rw [<- hs, List.set_eq_take_append_cons_drop, if_pos hl]
 refine List.perm_middle.trans (List.Perm.cons _ ?_)
 rw [hd]
theorem entSize_perm {l m : List Ent} (h : l.Perm m) : entSize l = entSize m := by
 unfold entSize
 exact (h.map _).sum_nat
theorem entHas_put {es : List Ent} {name : ByteArray} {n : Int} (hno : entHas es name = false) (x : ByteArray) : entHas (entPut es name n) x = (entHas es x || decide (x = name)) := by
 rw [Bool.eq_iff_iff, entHas_iff, Bool.or_eq_true, entHas_iff]
 simp only [mem_entPut hno, decide_eq_true_eq]
 constructor
 ·rintro ⟨e, h | h, rfl⟩
  ·exact .inl ⟨e, h, rfl⟩
  ·subst h; exact .inr rfl
 ·rintro (⟨e, h, rfl⟩ | h)
  ·exact ⟨e, .inl h, rfl⟩
  ·exact ⟨_, .inr rfl, h.symm⟩
theorem rising_ext : ∀ {l m : List Ent}, Rising l -> Rising m -> (∀ e, e ∈ l ↔ e ∈ m) -> l = m
 | [], [], _, _, _ => rfl
 | [], b :: m, _, _, h => by have := (h b).2 (by simp); cases this
 | a :: l, [], _, _, h => by have := (h a).1 (by simp); cases this
 | a :: l, b :: m, hl, hm, h => by
   have hl' := List.pairwise_cons.1 hl
   have hm' := List.pairwise_cons.1 hm
   have hab : a = b := by
    rcases List.mem_cons.1 ((h a).1 (by simp)) with e | e
    ·exact e
    ·rcases List.mem_cons.1 ((h b).2 (by simp)) with e2 | e2
     ·exact e2.symm
     ·have h1 := hm'.1 a e
      have h2 := hl'.1 b e2
      rw [bLt_asymm h1] at h2; cases h2
   subst hab
   congr 1
   refine rising_ext hl'.2 hm'.2 fun e => ?_
   constructor
   ·intro he
    rcases List.mem_cons.1 ((h e).1 (List.mem_cons_of_mem _ he)) with e2 | e2
    ·subst e2; have := hl'.1 e he; rw [bLt_irrefl] at this; cases this
    ·exact e2
   ·intro he
    rcases List.mem_cons.1 ((h e).2 (List.mem_cons_of_mem _ he)) with e2 | e2
    ·subst e2; have := hm'.1 e he; rw [bLt_irrefl] at this; cases this
    ·exact e2
theorem entDel_put {es : List Ent} (h : Rising es) {name : ByteArray} {n : Int} (hno : entHas es name = false) : entDel (entPut es name n) name = es := by
 refine rising_ext ((h.put name n).del name) h fun e => ?_
 unfold entDel
 rw [List.mem_filter, mem_entPut hno]
 constructor
 ·rintro ⟨h1 | h1, h2⟩
  ·exact h1
  ·subst h1; simp at h2
 ·intro he
  refine ⟨.inl he, ?_⟩
  cases hd : decide (e.1 = name) with
  | false => rfl
  | true =>
    have : entHas es name = true := List.any_eq_true.2 ⟨e, he, hd⟩
    rw [this] at hno; cases hno
theorem rising_name {l : List Ent} (h : Rising l) {x y : Ent} (hx : x ∈ l) (hy : y ∈ l) (e : x.1 = y.1) : x = y := by
 obtain ⟨i, hi⟩ := List.mem_iff_getElem?.1 hx
 obtain ⟨j, hj⟩ := List.mem_iff_getElem?.1 hy
 rcases Nat.lt_trichotomy i j with h1 | h1 | h1
 ·have := h.get hi hj h1; rw [e, bLt_irrefl] at this; cases this
 ·subst h1; rw [hi] at hj; cases hj; rfl
 ·have := h.get hj hi h1; rw [e, bLt_irrefl] at this; cases this
theorem entGet_iff {l : List Ent} (h : Rising l) {name : ByteArray} {k : Int} : entGet l name = some k ↔ (name, k) ∈ l := by
 refine ⟨entGet_mem, fun hm => ?_⟩
 have hh : entHas l name = true := entHas_iff.2 ⟨_, hm, rfl⟩
 rw [<- entGet_isSome] at hh
 obtain ⟨k', hk'⟩ := Option.isSome_iff_exists.1 hh
 have := rising_name h (entGet_mem hk') hm rfl
 rw [hk']
 cases this; rfl
theorem mem_entDel {l : List Ent} {name : ByteArray} {e : Ent} : e ∈ entDel l name ↔ e ∈ l ∧ e.1 ≠ name := by simp [entDel]
theorem mem_entSet {l : List Ent} {name : ByteArray} {n : Int} {e : Ent} : e ∈ entSet l name n ↔ (e ∈ l ∧ e.1 ≠ name) ∨ (e = (name, n) ∧ entHas l name = true) := by
 unfold entSet
 rw [List.mem_map, entHas_iff]
 constructor
 ·rintro ⟨x, hx, rfl⟩
  split
  ·next e => exact .inr ⟨by rw [e], x, hx, e⟩
  ·next e => exact .inl ⟨hx, e⟩
 ·rintro (⟨h1, h2⟩ | ⟨rfl, x, hx, e⟩)
  ·exact ⟨e, h1, if_neg h2⟩
  ·exact ⟨x, hx, by rw [if_pos e, e]⟩
theorem entHas_set {l : List Ent} {name : ByteArray} {n : Int} (x : ByteArray) : entHas (entSet l name n) x = entHas l x := by
 rw [Bool.eq_iff_iff, entHas_iff, entHas_iff]
 simp only [mem_entSet]
 constructor
 ·rintro ⟨e, ⟨h1, h2⟩ | ⟨rfl, h2⟩, rfl⟩
  ·exact ⟨e, h1, rfl⟩
  ·exact entHas_iff.1 h2
 ·rintro ⟨e, he, rfl⟩
  by_cases h : e.1 = name
  ·exact ⟨(name, n), .inr ⟨rfl, entHas_iff.2 ⟨e, he, h⟩⟩, h.symm⟩
  ·exact ⟨e, .inl ⟨he, h⟩, rfl⟩
theorem entGet_put_other {l : List Ent} (h : Rising l) {name x : ByteArray} {n : Int} (hno : entHas l name = false) (hx : x ≠ name) : entGet (entPut l name n) x = entGet l x := by
 cases hg : entGet l x with
 | none =>
   refine entGet_none ?_
   have := entGet_isSome l x
   rw [hg] at this
   rw [entHas_put hno, <- this]; simpa using hx
 | some k => exact (entGet_iff (h.put name n)).2 ((mem_entPut hno _).2 (.inl (entGet_mem hg)))
theorem entGet_set_other {l : List Ent} (h : Rising l) {name x : ByteArray} {n : Int} (hx : x ≠ name) : entGet (entSet l name n) x = entGet l x := by
 cases hg : entGet l x with
 | none =>
   refine entGet_none ?_
   have := entGet_isSome l x
   rw [hg] at this
   rw [entHas_set, <- this]; rfl
 | some k => exact (entGet_iff (h.set name n)).2 (mem_entSet.2 (.inl ⟨entGet_mem hg, hx⟩))
end Go.Proofs.YtimidmogcbapnaaGreatDoor
namespace Go.Proofs.YtimidmogcbapnaaGreatDoor
open Go.RowKit
section
variable {d : Nds} {i : Int} {n : Nd}
theorem cnt_none (h : DInv d) {j : Int} (hj : ¬ has d j) : cnt d j = 0 := by
 rcases Nat.eq_zero_or_pos (cnt d j) with h0 | h0
 ·exact h0
 ·obtain ⟨k, e, he, hi⟩ := cnt_pos.1 h0
  have := (h.tgt k e he).1
  rw [hi] at this
  exact absurd this hj
theorem has_append (hn : n.kind ≠ 0) (j : Int) : has (d ++ [n]) j ↔ j = d.length ∨ has d j := by
 unfold has
 rw [nd_append]
 split
 ·next e => subst e; exact ⟨fun _ => .inl rfl, fun _ => hn⟩
 ·next e => exact ⟨.inr, fun h => h.resolve_left e⟩
theorem not_has_length (d : Nds) : ¬ has d d.length := fun h => by have := has_range h; omega
theorem links_append (he : n.ents = []) (j : Int) : links (d ++ [n]) j = links d j := by
 unfold links cnt
 rw [sumBy_append]
 have : namesOf j n = 0 := by unfold namesOf; rw [he]; rfl
 omega
theorem par_append (h : DInv d) (he : n.ents = []) (j k : Int) : Par (d ++ [n]) j k ↔ Par d j k := by
 unfold Par
 rw [nd_append, nd_append]
 constructor
 ·rintro ⟨h1, e, h2, h3⟩
  split at h2
  ·rw [he] at h2; cases h2
  ·have := (h.tgt j e h2).1
   rw [h3] at this
   rw [if_neg (fun hk => by subst hk; exact not_has_length d this)] at h1
   exact ⟨h1, e, h2, h3⟩
 ·rintro ⟨h1, e, h2, h3⟩
  have hk : k ≠ d.length := fun hk => by
   have : has d k := by unfold has; rw [h1]; decide
   subst hk; exact not_has_length d this
  have hj : j ≠ d.length := fun hj => by
   subst hj
   rw [nd_gone (by omega)] at h2; cases h2
  rw [if_neg hk, if_neg hj]
  exact ⟨h1, e, h2, h3⟩
theorem DInv.add (h : DInv d) (hn : n.kind ≠ 0) (hok : NdOk n) (he : n.ents = []) : DInv (d ++ [n]) := by
 have h2 := h.two
 refine ⟨by rw [List.length_append]; omega, ?_, ?_, fun j => ?_, fun j e hj => ?_, fun j hj => ?_, fun j => ?_⟩
 ·rw [nd_append, if_neg (by omega)]; exact h.zero
 ·rw [nd_append, if_neg (by omega)]; exact h.root
 ·rw [nd_append]; split
  ·exact hok
  ·exact h.node j
 ·rw [nd_append] at hj
  split at hj
  ·rw [he] at hj; cases hj
  ·exact ⟨(has_append hn _).2 (.inr (h.tgt j e hj).1), (h.tgt j e hj).2⟩
 ·rw [links_append he]
  rw [nd_append] at hj
  split at hj
  ·next e =>
   subst e
   have := cnt_none h (not_has_length d)
   unfold links
   split <;> omega
  ·exact h.single j hj
 ·have := h.acyc j
  induction this with
  | intro j _ ih => exact ⟨j, fun k hk' => ih k ((par_append h he k j).1 hk')⟩
theorem noGarb_append (h : NoGarb d) (he : n.ents = []) (hh : n.holds ≠ 0) : NoGarb (d ++ [n]) := by
 intro j ⟨h1, h2, h3⟩
 rw [links_append he] at h2
 unfold has at h1
 rw [nd_append] at h1 h3
 split at h1
 ·next e => rw [if_pos e] at h3; exact hh h3
 ·next e => rw [if_neg e] at h3; exact h j ⟨h1, h2, h3⟩
theorem IsDisk.add {R R' : RD} {w w' : World} {a : Nat} {room : Int} {lk up : Int -> Int} (hC : Casc R w a d room lk up zp) (hcl : NoGarb d) (hn : n.kind ≠ 0) (hok : NdOk n) (he : n.ents = []) (hh : n.holds ≠ 0)
 (rep : Rep R' w' a (d ++ [n]) room (used (d ++ [n])) (setAt lk d.length 0) (setAt up d.length 0)) (hs : smallD (d ++ [n])) (hf : (used (d ++ [n]) : Int) <= room) (hm : room <= 9223372036854775807) : IsDisk R' w' a (d ++ [n]) room := by
 refine ⟨⟨_, _, rep, hC.inv.add hn hok he, fun j hj => ?_, fun j hj => absurd hj (by unfold zp; omega), fun j hj => ?_, hs, fun j hj => ?_⟩, noGarb_append hcl he hh, hf, hm⟩
 ·rw [links_append he]
  rcases (has_append hn j).1 hj with e | e
  ·subst e
   rw [setAt_same]
   have := cnt_none hC.inv (not_has_length d)
   have h2 := hC.inv.two
   unfold links zp
   rw [if_neg (by omega), this]; rfl
  ·have hne : j ≠ d.length := fun e1 => by subst e1; exact not_has_length d e
   rw [setAt_other hne]
   exact hC.cnt j e
 ·rcases (has_append hn j).1 hj with e | e
  ·subst e
   rw [setAt_same, setAt_same]
   have h2 := hC.inv.two
   refine ⟨fun k hk => ?_, fun e => by omega, fun _ => rfl⟩
   have hk := (par_append hC.inv he k _).1 hk
   have := hk.links
   have := cnt_none hC.inv (not_has_length d)
   unfold links at *
   rw [if_neg (by omega)] at *
   omega
  ·have hne : j ≠ d.length := fun e1 => by subst e1; exact not_has_length d e
   rw [setAt_other hne, setAt_other hne]
   obtain ⟨h1, h2, h3⟩ := hC.upok j e
   exact ⟨fun k hk => h1 k ((par_append hC.inv he k j).1 hk), h2, h3⟩
 ·rcases (has_append hn j).1 hj with e | e
  ·subst e; rw [setAt_same]; decide
  ·have hne : j ≠ d.length := fun e1 => by subst e1; exact not_has_length d e
   rw [setAt_other hne]; exact hC.lkb j e
theorem used_append (d : Nds) (n : Nd) : used (d ++ [n]) = used d + room1 n := sumBy_append _ _ _
theorem mass_append (d : Nds) (n : Nd) : mass (d ++ [n]) = mass d + mass1 n := sumBy_append _ _ _
inductive AboveR (P : Int -> Int -> Prop) (k : Int) : Int -> Prop
 | self : AboveR P k k
 | step {j i : Int} : P j i -> AboveR P k j -> AboveR P k i
abbrev Above (d : Nds) : Int -> Int -> Prop := AboveR (Par d)
theorem acc_reparent {P P' : Int -> Int -> Prop} {k t : Int} (hP : ∀ j i, P' j i -> (i ≠ k ∧ P j i) ∨ (i = k ∧ j = t)) (hacc : ∀ i, Acc P i) (hno : ¬ AboveR P k t) : ∀ i, Acc P' i := by
 have hA : ∀ i, Acc P i -> ¬ AboveR P k i -> Acc P' i := fun i h => by
  induction h with
  | intro i _ ih =>
    intro hn
    refine ⟨i, fun j hj => ?_⟩
    rcases hP j i hj with ⟨h1, h2⟩ | ⟨h1, _⟩
    ·exact ih j h2 (fun ha => hn (.step h2 ha))
    ·subst h1; exact absurd .self hn
 have ht := hA t (hacc t) hno
 intro i
 have := hacc i
 induction this with
 | intro i _ ih =>
   refine ⟨i, fun j hj => ?_⟩
   rcases hP j i hj with ⟨_, h2⟩ | ⟨h1, h2⟩
   ·exact ih j h2
   ·subst h2; exact ht
def setE (d : Nds) (i : Int) (es : List Ent) : Nds := upd d i ((nd d i).setEnts es)
def nms (j : Int) (es : List Ent) : Nat := es.countP fun e => decide (e.2 = j)
theorem nms_perm {l m : List Ent} (h : l.Perm m) (j : Int) : nms j l = nms j m := h.countP_eq _
theorem nms_cons (x : Ent) (l : List Ent) (j : Int) : nms j (x :: l) = nms j l + if x.2 = j then 1 else 0 := by
 unfold nms
 rw [List.countP_cons]
 simp
theorem nms_pos {j : Int} {l : List Ent} : 0 < nms j l ↔ ∃ e ∈ l, e.2 = j := by simp [nms, List.countP_pos_iff]
theorem nms_put {es : List Ent} {name : ByteArray} {k : Int} (h : entHas es name = false) (j : Int) : nms j (entPut es name k) = nms j es + if k = j then 1 else 0 := by
 rw [nms_perm (entPut_perm h), nms_cons]
theorem nms_del {es : List Ent} (hr : Rising es) {name : ByteArray} {k : Int} (h : entGet es name = some k) (j : Int) : nms j es = nms j (entDel es name) + if k = j then 1 else 0 := by
 rw [nms_perm (entDel_perm hr h), nms_cons]
theorem nms_set {es : List Ent} (hr : Rising es) {name : ByteArray} {k : Int} (n : Int) (h : entGet es name = some k) (j : Int) : nms j (entSet es name n) + (if k = j then 1 else 0) = nms j es + if n = j then 1 else 0 := by
 rw [nms_perm (entSet_perm hr n h), nms_cons, nms_del hr h]
 dsimp only
 omega
theorem entSize_cons (x : Ent) (l : List Ent) : entSize (x :: l) = entSize l + x.1.size := by simp [entSize]; omega
theorem entSize_put {es : List Ent} {name : ByteArray} {k : Int} (h : entHas es name = false) : entSize (entPut es name k) = entSize es + name.size := by
 rw [entSize_perm (entPut_perm h), entSize_cons]
theorem entSize_del {es : List Ent} (hr : Rising es) {name : ByteArray} {k : Int} (h : entGet es name = some k) : entSize es = entSize (entDel es name) + name.size := by
 rw [entSize_perm (entDel_perm hr h), entSize_cons]
theorem entSize_set {es : List Ent} (hr : Rising es) {name : ByteArray} {k : Int} (n : Int) (h : entGet es name = some k) : entSize (entSet es name n) = entSize es := by
 rw [entSize_perm (entSet_perm hr n h), entSize_cons, entSize_del hr h]
theorem len_put {es : List Ent} {name : ByteArray} {k : Int} (h : entHas es name = false) : (entPut es name k).length = es.length + 1 := by
 rw [(entPut_perm h).length_eq]; rfl
theorem len_del {es : List Ent} (hr : Rising es) {name : ByteArray} {k : Int} (h : entGet es name = some k) : es.length = (entDel es name).length + 1 := by
 rw [(entDel_perm hr h).length_eq]; rfl
theorem len_set (es : List Ent) (name : ByteArray) (n : Int) : (entSet es name n).length = es.length := by unfold entSet; simp
theorem nd_setE (hi : has d i) (es : List Ent) (j : Int) : nd (setE d i es) j = if j = i then (nd d i).setEnts es else nd d j := nd_upd (has_range hi).1 (has_range hi).2 _ _
theorem kind_setE (hi : has d i) (es : List Ent) (j : Int) : (nd (setE d i es) j).kind = (nd d j).kind := by
 rw [nd_setE hi]
 split
 ·next e => subst e; rfl
 ·rfl
theorem holds_setE (hi : has d i) (es : List Ent) (j : Int) : (nd (setE d i es) j).holds = (nd d j).holds := by
 rw [nd_setE hi]
 split
 ·next e => subst e; rfl
 ·rfl
theorem ents_setE (hi : has d i) (es : List Ent) (j : Int) : (nd (setE d i es) j).ents = if j = i then es else (nd d j).ents := by
 rw [nd_setE hi]
 split <;> rfl
theorem has_setE (hi : has d i) (es : List Ent) (j : Int) : has (setE d i es) j ↔ has d j := has_upd (n := (nd d i).setEnts es) hi hi j
theorem links_setE (hi : has d i) (es : List Ent) (j : Int) : links (setE d i es) j + nms j (nd d i).ents = links d j + nms j es := links_upd (n := (nd d i).setEnts es) hi j
theorem used_setE (hi : has d i) (es : List Ent) : used (setE d i es) + entSize (nd d i).ents = used d + entSize es := by
 have := used_upd (n := (nd d i).setEnts es) hi
 unfold room1 at this
 simp only [Nd.setEnts] at this
 unfold setE
 simp only [Nd.setEnts]
 omega
theorem mass_setE (hi : has d i) (es : List Ent) : mass (setE d i es) + (nd d i).ents.length = mass d + es.length := by
 have := mass_upd (n := (nd d i).setEnts es) hi
 unfold mass1 at this
 simp only [Nd.setEnts] at this
 unfold setE
 simp only [Nd.setEnts]
 omega
theorem Nds.ext {d d' : Nds} (hl : d.length = d'.length) (h : ∀ j, nd d j = nd d' j) : d = d' := by
 apply List.ext_getElem?
 intro j
 by_cases hj : j < d.length
 ·have h1 := nd_get (d := d) (i := j) (by omega) (by omega)
  have h2 := nd_get (d := d') (i := j) (by omega) (by omega)
  simp only [Int.toNat_natCast] at h1 h2
  rw [h1, h2, h]
 ·rw [List.getElem?_eq_none (by omega), List.getElem?_eq_none (by omega)]
theorem length_setE (d : Nds) (i : Int) (es : List Ent) : (setE d i es).length = d.length := upd_length _ _ _
theorem setE_setE (hi : has d i) (es es' : List Ent) : setE (setE d i es) i es' = setE d i es' := by
 refine Nds.ext (by simp only [length_setE]) fun j => ?_
 rw [nd_setE ((has_setE hi es i).2 hi), nd_setE hi, nd_setE hi, nd_setE hi]
 by_cases e : j = i
 ·rw [if_pos e, if_pos e, if_pos rfl]; rfl
 ·rw [if_neg e, if_neg e, if_neg e]
theorem setE_self (hi : has d i) : setE d i (nd d i).ents = d := by
 refine Nds.ext (by simp only [length_setE]) fun j => ?_
 rw [nd_setE hi]
 split
 ·next e => subst e; rfl
 ·rfl
theorem DInv.turned (h : DInv d) {d' : Nds} (hl : d'.length = d.length) (hnd : ∀ j, ∃ es, nd d' j = (nd d j).setEnts es ∧ Rising es ∧ (∀ e ∈ es, okName e.1 = true ∧ has d e.2 ∧ e.2 ≠ 1) ∧ ((nd d j).kind ≠ 2 -> es = []))
 (hsg : ∀ j, (nd d j).kind = 2 -> links d' j <= 1) (hac : ∀ j, Acc (Par d') j) : DInv d' := by
 have hkind : ∀ j, (nd d' j).kind = (nd d j).kind := fun j => by
  obtain ⟨es, h1, _⟩ := hnd j
  rw [h1]; rfl
 refine ⟨by rw [hl]; exact h.two, ?_, ?_, fun j => ?_, fun j e hj => ?_, fun j hj => ?_, hac⟩
 ·obtain ⟨es, h1, _, _, h4⟩ := hnd 0
  rw [h.zero] at h1 h4
  have := h4 (by decide)
  subst this
  rw [h1]; rfl
 ·rw [hkind]; exact h.root
 ·obtain ⟨es, h1, h2, h3, h4⟩ := hnd j
  rw [h1]
  have hok := h.node j
  refine ⟨hok.kind0, hok.kind3, fun e => ?_, hok.mode0, hok.mode1, hok.holds, hok.data, hok.dirs, h4, h2, fun e he => (h3 e he).1⟩
  have e0 : (nd d j).kind = 0 := e
  have h5 := hok.gone e0
  have h6 := h4 (by rw [e0]; decide)
  rw [h5, h6]; rfl
 ·obtain ⟨es, h1, h2, h3, h4⟩ := hnd j
  rw [h1] at hj
  have := h3 e hj
  refine ⟨?_, this.2.2⟩
  unfold has
  rw [hkind]
  exact this.2.1
 ·rw [hkind] at hj; exact hsg j hj
theorem DInv.ents (h : DInv d) (hi : (nd d i).kind = 2) {es : List Ent} (hr : Rising es) (hnm : ∀ e ∈ es, okName e.1 = true) (htg : ∀ e ∈ es, has d e.2 ∧ e.2 ≠ 1)
 (hsg : ∀ j, (nd d j).kind = 2 -> links (setE d i es) j <= 1) (hac : ∀ j, Acc (Par (setE d i es)) j) : DInv (setE d i es) := by
 have hh : has d i := by unfold has; rw [hi]; decide
 refine h.turned (length_setE d i es) (fun j => ?_) hsg hac
 rw [nd_setE hh]
 split
 ·next e => subst e; exact ⟨es, rfl, hr, fun e he => ⟨hnm e he, htg e he⟩, fun h => absurd hi h⟩
 ·exact ⟨(nd d j).ents, rfl, (h.node j).rising, fun e he => ⟨(h.node j).names e he, h.tgt j e he⟩, (h.node j).flat⟩
end
set_option maxRecDepth 100000
set_option maxHeartbeats 1000000
def makeErr (d : Nds) (room kind m : Int) (s : ByteArray) : Int :=
 if kind < 1 then 43 else if 3 < kind then 43 else if kind = 2 ∧ s.size ≠ 0 then 43 else if okMode m = false then 10 else if 4194304 < s.size then 18 else if 65536 <= count d then 24 else if room - used d < s.size then 20 else 0
def newNd (kind m : Int) (s : ByteArray) : Nd := ⟨kind, m, 1, s, []⟩
section
variable {R : RD} {w : World} {a : Nat} {d : Nds} {room : Int}
theorem used_le2 {d : Nds} (h : DInv d) (hs : smallD d) : (used d : Int) <= 9007199254740992 := by
 have h1 := used_le h
 unfold smallD at hs
 omega
theorem make_end {lk up : Int -> Int} {us1 : Int} {w1 w5 : World} {kind m : Int} {s : ByteArray} (hC : Casc R w a d room lk up zp) (hcl : NoGarb d) (hfit : (used d : Int) + s.size <= room) (hmax : room <= 9223372036854775807) (hb : mass d + 2 <= 2147483648)
 (h1 : 1 <= kind) (h3 : kind <= 3) (h2 : kind ≠ 2 ∨ s = ⟨#[]⟩) (hm : okMode m = true) (hs : (s.size : Int) <= 4194304)
 (hR1 : Rep R w1 a d room us1 lk up) (hus : us1 = (used d : Int) + s.size) (hk1 : Keeps (fun x => x = a) w w1) (e8 T : TypeId) {cap : Nat} (hcap : cap = grownCap (w1.setCell ⟨a, 1, none⟩ (.int .i64 ((d.length : Int) + 1))) s.size 0 e8)
 {w4 : World} (hw4 : w4 = (Lib.bytesWorld (w1.setCell ⟨a, 1, none⟩ (.int .i64 ((d.length : Int) + 1))) e8 s).alloc (.cells #[.int .i64 kind, .int .i64 m, .int .i64 0, .int .i64 1, .slice (some ⟨w1.heap.size, 0, none⟩) s.size cap, .slice none 0 0, .int .i64 0] T))
 {g5 : Nat} (hm5 : IMap w5 R.b (R.kv ++ [((d.length : Int), .pointer (some ⟨g5, 0, none⟩))])) (hg5 : g5 = w1.heap.size + 1) (hk5 : Keeps (fun g => g = R.b) w4 w5) : DiskTo R w a (d ++ [newNd kind m s]) room w5 := by
 subst hg5
 have hab : ¬ a = R.b := fun e => by have := hC.rep.tagB; rw [<- e, hC.rep.tagA] at this; cases this
 have hsz2 : (w1.setCell ⟨a, 1, none⟩ (.int .i64 ((d.length : Int) + 1))).heap.size = w1.heap.size := by simp [World.setCell]
 obtain ⟨hO3, hk3⟩ := OwnB.conv (S := fun _ => True) (w1.setCell ⟨a, 1, none⟩ (.int .i64 ((d.length : Int) + 1))) e8 s trivial (by unfold maxLen; omega)
 rw [hsz2, <- hcap] at hO3
 have hsz3 := Lib.bytesWorld_size (w1.setCell ⟨a, 1, none⟩ (.int .i64 ((d.length : Int) + 1))) e8 s
 rw [hsz2] at hsz3
 generalize hw2 : w1.setCell ⟨a, 1, none⟩ (.int .i64 ((d.length : Int) + 1)) = w2 at *
 generalize hw3 : Lib.bytesWorld w2 e8 s = w3 at *
 have k12 : Keeps (fun x => x = a) w1 w2 := by rw [<- hw2]; exact keeps_set w1 ⟨a, 1, none⟩ _
 have k34 : Keeps NoB w3 w4 := by rw [hw4]; exact (Keeps.refl _ _).alloc _
 have k14 : Keeps (fun x => x = a) w1 w4 := (k12.trans hk3.of_none).trans k34.of_none
 have kk : Keeps (fun x => x = a ∨ x = R.b) w w5 := ((hk1.trans k14).mono (fun _ _ h => .inl h)).trans (hk5.mono (fun _ _ h => .inr h))
 have hal1 := hR1.alt
 have hc : ∀ (j : Nat), w5.cell? ⟨a, j, none⟩ = w2.cell? ⟨a, j, none⟩ := fun j => by
  have e1 : w4.cell? ⟨a, j, none⟩ = w2.cell? ⟨a, j, none⟩ := (hk3.trans k34).cell (p := ⟨a, j, none⟩) (by rw [hsz2]; exact hal1) (fun h => h)
  rw [<- e1]
  exact hk5.cell (p := ⟨a, j, none⟩) (Nat.lt_of_lt_of_le hal1 k14.size) hab
 have hf : ∀ (j : Nat), w5.frozen? ⟨a, j, none⟩ = w2.frozen? ⟨a, j, none⟩ := fun j => by
  have e1 : w4.frozen? ⟨a, j, none⟩ = w2.frozen? ⟨a, j, none⟩ := (hk3.trans k34).frozen (p := ⟨a, j, none⟩) (by rw [hsz2]; exact hal1) (fun h => h)
  rw [<- e1]
  exact hk5.frozen (p := ⟨a, j, none⟩) (Nat.lt_of_lt_of_le hal1 k14.size) hab
 have hsz4 : w4.heap.size = w1.heap.size + 2 := by rw [hw4]; simp; omega
 have hbt : R.b < w1.heap.size := hR1.map.lt
 have hnew := heap_alloc_new w3 (.cells #[.int .i64 kind, .int .i64 m, .int .i64 0, .int .i64 1, .slice (some ⟨w1.heap.size, 0, none⟩) s.size cap, .slice none 0 0, .int .i64 0] T)
 rw [<- hw4, hsz3] at hnew
 have hn5 : w5.heap[w1.heap.size + 1]? = some (.cells #[.int .i64 kind, .int .i64 m, .int .i64 0, .int .i64 1, .slice (some ⟨w1.heap.size, 0, none⟩) s.size cap, .slice none 0 0, .int .i64 0] T) := (hk5.block _ (by omega) (by omega)).trans hnew
 have hcell : ∀ j v, (#[Value.int .i64 kind, .int .i64 m, .int .i64 0, .int .i64 1, .slice (some ⟨w1.heap.size, 0, none⟩) s.size cap, .slice none 0 0, .int .i64 0] : Array Value)[j]? = some v -> w5.cell? ⟨w1.heap.size + 1, j, none⟩ = some v := fun j v hv => by
  rw [cell_of_row w5 _ j _ T (0, 0) hn5]; exact hv
 have hO5 : OwnB (fun _ => True) w5 (.slice (some ⟨w1.heap.size, 0, none⟩) s.size cap) s := (hO3.keep k34 (fun _ _ h => h)).keep hk5 (fun g hg e => by
  have e' : g = R.b := e
  simp [Value.ownBlock] at hg; omega)
 have hN : NodeAt w5 (w1.heap.size + 1) (.slice (some ⟨w1.heap.size, 0, none⟩) s.size cap) (.slice none 0 0) (newNd kind m s) 0 0 :=
  ⟨hcell 0 _ rfl, hcell 1 _ rfl, hcell 2 _ rfl, hcell 3 _ rfl, hcell 4 _ rfl, hO5, ⟨hcell 5 _ rfl, frozen_of_row w5 _ 5 _ T hn5, rfl, Own.nil _ _ _ _, List.Pairwise.nil, (fun _ h => by cases h), (fun h => by simp [Value.ownBlock] at h)⟩, hcell 6 _ rfl, fun j => frozen_of_row w5 _ j _ T hn5⟩
 have hle := hk1.size
 have hnd0 : (newNd kind m s).kind ≠ 0 := by unfold newNd; simp only; omega
 obtain ⟨R', hR', hT⟩ := hC.rep.add kk (n := newNd kind m s) hnd0 (us' := us1) (w1.heap.size + 1) (.slice (some ⟨w1.heap.size, 0, none⟩) s.size cap)
  ((hc 0).trans (by rw [<- hw2]; exact cell_set hR1.l)) ((hc 1).trans (by rw [<- hw2]; exact cell_set hR1.next)) ((hc 2).trans (by rw [<- hw2]; exact cell_set hR1.used)) ((hc 3).trans (by rw [<- hw2]; exact cell_set hR1.room))
  (fun j => (hf j).trans (by rw [<- hw2]; exact (frozen_set _ _ _ _).trans (hR1.fz j))) hm5 (by omega) (fun x hx => by simp [Value.ownBlock] at hx; omega) hN
 have hmo : 0 <= m ∧ m <= 4095 := by simpa [okMode] using hm
 have hok : NdOk (newNd kind m s) := ⟨by unfold newNd; simp only; omega, by unfold newNd; simp only; omega, fun e => absurd e hnd0, hmo.1, hmo.2, (by show (0 : Int) <= 1; decide), by unfold newNd; simp only; omega,
  fun e => h2.elim (fun h => absurd e h) id, fun _ => rfl, List.Pairwise.nil, (fun _ h => by cases h)⟩
 have hu : used (d ++ [newNd kind m s]) = used d + s.size := by
  rw [used_append]; unfold room1 newNd; simp [entSize]
 refine ⟨R', IsDisk.add hC hcl hnd0 hok rfl (by show (1 : Int) ≠ 0; decide) (by rw [hu]; rw [hus] at hR'; exact_mod_cast hR') ?_ (by rw [hu]; omega) hmax, hT⟩
 unfold smallD
 rw [mass_append]
 unfold mass1 newNd
 simp only [List.length_nil]
 omega
theorem make_any (h : IsDisk R w a d room) (kind m : Int) (s : ByteArray) (hb : mass d + 2 <= 2147483648) (he : makeErr d room kind m s = 0) :
 Calls Tryz.prog 39 #[.pointer (some ⟨a, 0, none⟩), .int .i64 kind, .int .i64 m, .string s] w fun e w' => e = .returned (.tuple #[.int .i64 d.length, .int .i64 0]) ∧ DiskTo R w a (d ++ [newNd kind m s]) room w' := by
 have H := Lib.hid h
 obtain ⟨⟨lk, up, hC⟩, hcl, hfit, hmax⟩ := h
 unfold makeErr at he
 split at he; · cases he
 split at he; · cases he
 split at he; · cases he
 split at he; · cases he
 split at he; · cases he
 split at he; · cases he
 split at he; · cases he
 next c1 c2 c3 c4 c5 c6 c7 =>
 have hmode : okMode m = true := by simpa using c4
 have hr := right_any m w
 rw [hmode] at hr
 have hl := hC.rep.l
 have hlen := hC.rep.map.len (P := Tryz.prog) Tryz.underlying78 3
 rw [hC.rep.len, show goInt ((count d : Nat) : Int) = .int .i64 (count d : Nat) from rfl] at hlen
 have hul := used_le2 hC.inv hC.small
 have hconv := fun wx => Lib.run_convert_string_bytes (P := Tryz.prog) wx 9 81 5 s Tryz.underlying9 Tryz.underlying81 Tryz.underlying5
 have hml := mass_ge d
 have htake := take_any hC.rep s.size (by omega) hfit hmax (by omega) (by omega)
 have ht : (decide ((s.size : Int) <= room - used d)) = true := decide_eq_true (by omega)
 have htu : takeU room (used d) s.size = used d + s.size := if_pos (by omega)
 rw [ht, htu] at htake
 have hlt : ¬ (65536 <= (count d : Int)) := by omega
 have hls : ¬ (4194304 < (s.size : Int)) := by omega
 have hlt2 : (65536 <= (count d : Int)) = False := by simp; omega
 have hw1 : wrap64 ((d.length : Int) + 1) = (d.length : Int) + 1 := IntWalk.wrap64_in _ (by omega)
 have hno : kvGet R.kv d.length = none := by rw [hC.rep.get, if_neg (not_has_length d)]
 have hab : ¬ R.b = a := fun e => by have := hC.rep.tagB; rw [e, hC.rep.tagA] at this; cases this
 have k2 : kind ≠ 2 ∨ (kind = 2 ∧ s = ⟨#[]⟩) := by
  by_cases e : kind = 2
  ·refine .inr ⟨e, ByteArray.ext (Array.eq_empty_of_size_eq_zero ?_)⟩
   by_cases e0 : s.size = 0
   ·exact e0
   ·exact absurd ⟨e, e0⟩ c3
  ·exact .inl e
 have hs32 : s.size <= maxLen := by unfold maxLen; omega
 have HE := Lib.hid (fun w1 w4 w5 cap => make_end (w1 := w1) (w4 := w4) (w5 := w5) (cap := cap) (kind := kind) (m := m) (s := s) hC hcl (by omega) hmax hb (by omega) (by omega) (k2.imp id And.right) hmode (by omega) (us1 := (used d : Int) + s.size))
 clear hC hcl hul ht htu hb hmode c7 c6 c5 c4 hfit hmax hml c3
 generalize (count d : Int) = cd at *
 generalize (used d : Int) = u at *
 rcases k2 with k2 | ⟨rfl, rfl⟩
 all_goals
  go_enter Tryz.func39, Tryz.ntmps39
  go_wp2_with (first | (go_at_call 57; refine hr.mono ?_; rintro e w1 ⟨rfl, rfl⟩) | (go_at_call 55; refine htake.mono ?_; rintro e w1 ⟨rfl, hR1, hk1⟩; have hl1 := hR1.l; have hn1 := hR1.next; have hf1 := hR1.fz 1) | (at_mapUpdate; refine wpl_mapUpdate rfl (.tmp 61) (.tmp 62) (.tmp 68) _ rfl Tryz.underlying78 Tryz.underlying3 rfl (((hR1.map.keep (keeps_set w1 ⟨a, 1, none⟩ _) hab).keep (OwnB.conv (S := fun _ => True) _ _ _ trivial hs32).2 (fun h => h)).keep ((Keeps.refl NoB _).alloc _) (fun h => h)) rfl rfl hno ?_; intro w5 hm5 hk5))
 all_goals
  go_ret2
  exact ⟨rfl, HE.out _ _ _ _ hR1 trivial hk1 _ _ rfl rfl hm5 (by rw [Lib.bytesWorld_size]; simp [World.setCell]) hk5⟩
theorem Casc.re {R' : RD} {w' : World} {lk up : Int -> Int} {pend : Int -> Nat} (h : Casc R w a d room lk up pend) (rep : Rep R' w' a d room (used d) lk up) : Casc R' w' a d room lk up pend :=
 ⟨rep, h.inv, h.cnt, h.pres, h.upok, h.small, h.lkb⟩
theorem make_err (h : IsDisk R w a d room) (kind m : Int) (s : ByteArray) (hsz : s.size <= 4294967296) (he : makeErr d room kind m s ≠ 0) :
 Calls Tryz.prog 39 #[.pointer (some ⟨a, 0, none⟩), .int .i64 kind, .int .i64 m, .string s] w fun e w' => e = .returned (.tuple #[.int .i64 0, .int .i64 (makeErr d room kind m s)]) ∧ DiskTo R w a d room w' := by
 have H := Lib.hid h
 obtain ⟨⟨lk, up, hC⟩, hcl, hfit, hmax⟩ := h
 have hul := used_le2 hC.inv hC.small
 have htake := take_any hC.rep s.size (by omega) hfit hmax (by omega) (by omega)
 have hfa := hC.rep.fA
 have hl := hC.rep.l
 have hlen := hC.rep.map.len (P := Tryz.prog) Tryz.underlying78 3
 rw [hC.rep.len, show goInt ((count d : Nat) : Int) = .int .i64 (count d : Nat) from rfl] at hlen
 have hr := right_any m w
 have HE := Lib.hid (fun (w1 : World) (hR : Rep R w1 a d room (used d) lk up) (hk : Keeps (fun x => x = a) w w1) => (⟨R, ⟨⟨lk, up, hC.re hR⟩, hcl, hfit, hmax⟩, Turn.of (hk.mono (fun x _ hx => by subst hx; exact hfa))⟩ : DiskTo R w a d room w1))
 unfold makeErr at he ⊢
 clear hC hcl hul hmax hfit
 by_cases c1 : kind < 1
 ·rw [if_pos c1]
  clear he
  go_enter Tryz.func39, Tryz.ntmps39
  go_wp2
  go_ret2
  exact ⟨rfl, H.out.same (Keeps.refl _ _)⟩
 rw [if_neg c1] at he ⊢
 by_cases c2 : 3 < kind
 ·rw [if_pos c2]
  clear he
  go_enter Tryz.func39, Tryz.ntmps39
  go_wp2
  go_ret2
  exact ⟨rfl, H.out.same (Keeps.refl _ _)⟩
 rw [if_neg c2] at he ⊢
 by_cases c3 : kind = 2 ∧ s.size ≠ 0
 ·rw [if_pos c3]
  obtain ⟨rfl, c3⟩ := c3
  have hne : (s.toList == []) = false := beq_false_of_ne (fun e => c3 ((toList_nil s).1 e))
  clear he c3
  go_enter Tryz.func39, Tryz.ntmps39
  go_wp2
  go_ret2
  exact ⟨rfl, H.out.same (Keeps.refl _ _)⟩
 rw [if_neg c3] at he ⊢
 have k2 : kind ≠ 2 ∨ (kind = 2 ∧ s = ⟨#[]⟩) := by
  by_cases e : kind = 2
  ·refine .inr ⟨e, ByteArray.ext (Array.eq_empty_of_size_eq_zero ?_)⟩
   by_cases e0 : s.size = 0
   ·exact e0
   ·exact absurd ⟨e, e0⟩ c3
  ·exact .inl e
 clear c3
 by_cases c4 : okMode m = false
 ·rw [if_pos c4]
  rw [c4] at hr
  clear he c4
  rcases k2 with k2 | ⟨rfl, rfl⟩
  all_goals
   go_enter Tryz.func39, Tryz.ntmps39
   go_wp2_with (go_at_call 57; refine hr.mono ?_; rintro e w1 ⟨rfl, rfl⟩)
   go_ret2
   exact ⟨rfl, H.out.same (Keeps.refl _ _)⟩
 rw [if_neg c4] at he ⊢
 rw [show okMode m = true by simpa using c4] at hr
 clear c4
 by_cases c5 : 4194304 < s.size
 ·rw [if_pos c5]
  have c5' : ¬ ((s.size : Int) <= 4194304) := by omega
  rcases k2 with k2 | ⟨rfl, rfl⟩
  ·clear he c5
   go_enter Tryz.func39, Tryz.ntmps39
   go_wp2_with (go_at_call 57; refine hr.mono ?_; rintro e w1 ⟨rfl, rfl⟩)
   go_ret2
   exact ⟨rfl, H.out.same (Keeps.refl _ _)⟩
  ·exact absurd c5 (by decide)
 rw [if_neg c5] at he ⊢
 have c5' : (s.size : Int) <= 4194304 := by omega
 clear c5
 by_cases c6 : 65536 <= count d
 ·rw [if_pos c6]
  have c6' : 65536 <= (count d : Int) := by omega
  clear he c6
  generalize (count d : Int) = cd at *
  rcases k2 with k2 | ⟨rfl, rfl⟩
  all_goals
   go_enter Tryz.func39, Tryz.ntmps39
   go_wp2_with (go_at_call 57; refine hr.mono ?_; rintro e w1 ⟨rfl, rfl⟩)
   go_ret2
   exact ⟨rfl, H.out.same (Keeps.refl _ _)⟩
 rw [if_neg c6] at he ⊢
 have c6' : ¬ (65536 <= (count d : Int)) := by omega
 have c6'' : (65536 <= (count d : Int)) = False := by simp; omega
 clear c6
 by_cases c7 : room - used d < s.size
 ·rw [if_pos c7]
  rw [show (decide ((s.size : Int) <= room - used d)) = false from decide_eq_false (by omega), show takeU room (used d) s.size = used d from if_neg (by omega)] at htake
  clear he c7
  generalize (count d : Int) = cd at *
  generalize (used d : Int) = u at *
  rcases k2 with k2 | ⟨rfl, rfl⟩
  all_goals
   go_enter Tryz.func39, Tryz.ntmps39
   go_wp2_with (first | (go_at_call 57; refine hr.mono ?_; rintro e w1 ⟨rfl, rfl⟩) | (go_at_call 55; refine htake.mono ?_; rintro e w1 ⟨rfl, hR1, hk1⟩))
   go_ret2
   exact ⟨rfl, HE.out _ hR1 hk1⟩
 ·rw [if_neg c7] at he
  exact absurd rfl he
def makeTo (d : Nds) (room kind m : Int) (s : ByteArray) : Nds := if makeErr d room kind m s = 0 then d ++ [newNd kind m s] else d
def makeId (d : Nds) (room kind m : Int) (s : ByteArray) : Int := if makeErr d room kind m s = 0 then d.length else 0
theorem makeD_any (h : IsDisk R w a d room) (kind m : Int) (s : ByteArray) (hb : mass d + 2 <= 2147483648) (hsz : s.size <= 4294967296) :
 Calls Tryz.prog 39 #[.pointer (some ⟨a, 0, none⟩), .int .i64 kind, .int .i64 m, .string s] w fun e w' => e = .returned (.tuple #[.int .i64 (makeId d room kind m s), .int .i64 (makeErr d room kind m s)]) ∧ DiskTo R w a (makeTo d room kind m s) room w' := by
 unfold makeId makeTo
 by_cases he : makeErr d room kind m s = 0
 ·rw [if_pos he, if_pos he, he]; exact make_any h kind m s hb he
 ·rw [if_neg he, if_neg he]; exact make_err h kind m s hsz he
end
section
variable {d : Nds}
theorem setE_pos (h : DInv d) {i : Int} (hi : (nd d i).kind = 2) : has d i := by unfold has; rw [hi]; decide
theorem DInv.named_once (h : DInv d) {i j j' : Int} {e e' : Ent} (hi : (nd d i).kind = 2) (hj : e ∈ (nd d j).ents) (he : e.2 = i) (hj' : e' ∈ (nd d j').ents) (he' : e'.2 = i) : j = j' ∧ e = e' := by
 have hc : cnt d i <= 1 := by
  have := h.single i hi
  unfold links at this
  omega
 have hh : has d j := by
  intro h0
  have := (h.node j).flat (by rw [h0]; decide)
  rw [this] at hj; cases hj
 have hck := cnt_kill hh i
 have hpos : 0 < namesOf i (nd d j) := namesOf_pos.2 ⟨e, hj, he⟩
 have hjj : j = j' := by
  refine Classical.byContradiction fun hne => ?_
  have : 0 < cnt (Go.Proofs.YtimidmogcbapnaaGreatDoor.kill d j) i := cnt_pos.2 ⟨j', e', by rw [nd_kill hh, if_neg (fun e => hne e.symm)]; exact hj', he'⟩
  omega
 subst hjj
 refine ⟨rfl, ?_⟩
 have hr := (h.node j).rising
 have hg : entGet (nd d j).ents e.1 = some i := (entGet_iff hr).2 (by rw [<- he]; exact hj)
 have hd := nms_del hr hg i
 rw [if_pos rfl] at hd
 have hnn : namesOf i (nd d j) = nms i (nd d j).ents := rfl
 refine Classical.byContradiction fun hne => ?_
 have hm : e' ∈ entDel (nd d j).ents e.1 := mem_entDel.2 ⟨hj', fun en => hne (rising_name hr hj hj' en.symm)⟩
 have := nms_pos.2 ⟨e', hm, he'⟩
 omega
theorem DInv.par_one (h : DInv d) {i j j' : Int} (hj : Par d j i) (hj' : Par d j' i) : j = j' := by
 obtain ⟨h1, e, h2, h3⟩ := hj
 obtain ⟨_, e', h2', h3'⟩ := hj'
 exact (h.named_once h1 h2 h3 h2' h3').1
def enterTo (d : Nds) (i : Int) (name : ByteArray) (k : Int) : Nds := setE d i (entPut (nd d i).ents name k)
def dropTo (d : Nds) (i : Int) (name : ByteArray) : Nds := setE d i (entDel (nd d i).ents name)
section enter
variable {i k : Int} {name : ByteArray}
theorem enter_links (hi : has d i) (hp : putErr (nd d i).ents name = 0) (j : Int) : links (enterTo d i name k) j = links d j + if k = j then 1 else 0 := by
 have := links_setE hi (entPut (nd d i).ents name k) j
 have := nms_put (k := k) (putErr_zero.1 hp).2 j
 unfold enterTo
 omega
theorem enter_used (hi : has d i) (hp : putErr (nd d i).ents name = 0) : used (enterTo d i name k) = used d + name.size := by
 have := used_setE hi (entPut (nd d i).ents name k)
 have := entSize_put (k := k) (putErr_zero.1 hp).2
 unfold enterTo
 omega
theorem enter_mass (hi : has d i) (hp : putErr (nd d i).ents name = 0) : mass (enterTo d i name k) = mass d + 1 := by
 have := mass_setE hi (entPut (nd d i).ents name k)
 have := len_put (k := k) (putErr_zero.1 hp).2
 unfold enterTo
 omega
theorem enter_par (hi : has d i) (hp : putErr (nd d i).ents name = 0) (hkl : (nd d k).kind = 2 -> links d k = 0) {j x : Int} (h : Par (enterTo d i name k) j x) : (x ≠ k ∧ Par d j x) ∨ (x = k ∧ j = i) := by
 obtain ⟨h1, e, h2, h3⟩ := h
 unfold enterTo at h1 h2
 rw [kind_setE hi] at h1
 rw [ents_setE hi] at h2
 have hold : e ∈ (nd d j).ents -> (x ≠ k ∧ Par d j x) ∨ (x = k ∧ j = i) := fun he => by
  have hP : Par d j x := ⟨h1, e, he, h3⟩
  refine .inl ⟨fun hx => ?_, hP⟩
  subst hx
  have := hP.links
  have := hkl h1
  omega
 split at h2
 ·next hj =>
  subst hj
  rcases (mem_entPut (putErr_zero.1 hp).2 e).1 h2 with h4 | h4
  ·exact hold h4
  ·subst h4; exact .inr ⟨h3.symm, rfl⟩
 ·exact hold h2
theorem enter_ne (h : DInv d) (hkl : (nd d k).kind = 2 -> links d k = 0) : k ≠ 1 := fun e => by
 subst e
 have := hkl h.root
 unfold links at this
 rw [if_pos rfl] at this
 omega
theorem acc_mono {P P' : Int -> Int -> Prop} (hP : ∀ j i, P' j i -> P j i) (hacc : ∀ i, Acc P i) : ∀ i, Acc P' i := fun i => by
 have := hacc i
 induction this with
 | intro i _ ih => exact ⟨i, fun j hj => ih j (hP j i hj)⟩
theorem enter_inv (h : DInv d) (hi : (nd d i).kind = 2) (hk : has d k) (hkl : (nd d k).kind = 2 -> links d k = 0) (hp : putErr (nd d i).ents name = 0) (hno : (nd d k).kind = 2 -> ¬ Above d k i) : DInv (enterTo d i name k) := by
 have hh := setE_pos h hi
 obtain ⟨hok, hhas⟩ := putErr_zero.1 hp
 refine h.ents hi ((h.node i).rising.put name k) (fun e he => ?_) (fun e he => ?_) (fun j hj => ?_) ?_
 ·rcases (mem_entPut hhas e).1 he with h1 | h1
  ·exact (h.node i).names e h1
  ·subst h1; exact hok
 ·rcases (mem_entPut hhas e).1 he with h1 | h1
  ·exact h.tgt i e h1
  ·subst h1; exact ⟨hk, enter_ne h hkl⟩
 ·have := enter_links (k := k) hh hp j
  have hs := h.single j hj
  unfold enterTo at this
  split at this
  ·next e => subst e; have := hkl hj; omega
  ·omega
 ·by_cases h2 : (nd d k).kind = 2
  ·exact acc_reparent (fun j x hx => enter_par hh hp hkl hx) h.acyc (hno h2)
  ·refine acc_mono (fun j x hx => ?_) h.acyc
   have hx' := enter_par hh hp hkl hx
   rcases hx' with h3 | ⟨h3, _⟩
   ·exact h3.2
   ·subst h3
    have := hx.1
    rw [kind_setE hh] at this
    exact absurd this h2
theorem IsDisk.enter {R R' : RD} {w w' : World} {a : Nat} {room : Int} {lk up : Int -> Int} (hC : Casc R w a d room lk up zp) (hcl : NoGarb d) (hi : (nd d i).kind = 2) (hk : has d k) (hkl : (nd d k).kind = 2 -> links d k = 0)
 (hp : putErr (nd d i).ents name = 0) (hno : (nd d k).kind = 2 -> ¬ Above d k i)
 (rep : Rep R' w' a (enterTo d i name k) room (used (enterTo d i name k)) (setAt lk k (lk k + 1)) (if (nd d k).kind = 2 then setAt up k i else up))
 (hs : smallD (enterTo d i name k)) (hf : (used (enterTo d i name k) : Int) <= room) (hm : room <= 9223372036854775807) : IsDisk R' w' a (enterTo d i name k) room := by
 have hh := setE_pos hC.inv hi
 have hhas : ∀ j, has (enterTo d i name k) j ↔ has d j := has_setE hh _
 have hl := fun j => enter_links (k := k) hh hp j
 have hck := hC.cnt k hk
 refine ⟨⟨_, _, rep, enter_inv hC.inv hi hk hkl hp hno, fun j hj => ?_, fun j hj => absurd hj (by unfold zp; omega), fun j hj => ?_, hs, fun j hj => ?_⟩, fun j hj => ?_, hf, hm⟩
 ·have h1 := hC.cnt j ((hhas j).1 hj)
  rw [hl j]
  by_cases e : j = k
  ·subst e; rw [setAt_same, if_pos rfl]; omega
  ·rw [setAt_other e, if_neg (fun h => e h.symm)]; omega
 ·have hj' := (hhas j).1 hj
  obtain ⟨u1, u2, u3⟩ := hC.upok j hj'
  by_cases e : j = k
  ·subst e
   rw [setAt_same]
   refine ⟨fun x hx => ?_, fun e1 => absurd e1 (enter_ne hC.inv hkl), fun e0 => ?_⟩
   ·have hk2 := hx.1
    unfold enterTo at hk2
    rw [kind_setE hh] at hk2
    rw [if_pos hk2, setAt_same]
    rcases enter_par hh hp hkl hx with ⟨h1, _⟩ | ⟨_, h2⟩
    ·exact absurd rfl h1
    ·exact h2.symm
   ·omega
  ·rw [setAt_other e]
   have : (if (nd d k).kind = 2 then setAt up k i else up) j = up j := by
    split
    ·exact setAt_other e
    ·rfl
   rw [this]
   refine ⟨fun x hx => ?_, u2, u3⟩
   rcases enter_par hh hp hkl hx with ⟨_, h1⟩ | ⟨h1, _⟩
   ·exact u1 x h1
   ·exact absurd h1 e
 ·have h1 := hC.lkb j ((hhas j).1 hj)
  have h2 := links_le d k
  have h3 := hC.small
  unfold smallD at h3
  unfold setAt
  split
  ·unfold zp at hck; omega
  ·exact h1
 ·obtain ⟨g1, g2, g3⟩ := hj
  rw [hl j] at g2
  rw [show (nd (enterTo d i name k) j).holds = (nd d j).holds from holds_setE hh _ j] at g3
  exact hcl j ⟨(hhas j).1 g1, by omega, g3⟩
end enter
section leave
variable {i k : Int} {name : ByteArray}
theorem drop_links (h : DInv d) (hi : has d i) (hg : entGet (nd d i).ents name = some k) (j : Int) : links d j = links (dropTo d i name) j + if k = j then 1 else 0 := by
 have := links_setE hi (entDel (nd d i).ents name) j
 have := nms_del (h.node i).rising hg j
 unfold dropTo
 omega
theorem drop_mass (h : DInv d) (hi : has d i) (hg : entGet (nd d i).ents name = some k) : mass d = mass (dropTo d i name) + 1 := by
 have := mass_setE hi (entDel (nd d i).ents name)
 have := len_del (h.node i).rising hg
 unfold dropTo
 omega
theorem drop_par (hi : has d i) {j x : Int} (h : Par (dropTo d i name) j x) : Par d j x := by
 obtain ⟨h1, e, h2, h3⟩ := h
 unfold dropTo at h1 h2
 rw [kind_setE hi] at h1
 rw [ents_setE hi] at h2
 split at h2
 ·next hj => subst hj; exact ⟨h1, e, (mem_entDel.1 h2).1, h3⟩
 ·exact ⟨h1, e, h2, h3⟩
theorem drop_inv (h : DInv d) (hi : (nd d i).kind = 2) (hg : entGet (nd d i).ents name = some k) : DInv (dropTo d i name) := by
 have hh := setE_pos h hi
 refine h.ents hi ((h.node i).rising.del name) (fun e he => (h.node i).names e (mem_entDel.1 he).1) (fun e he => h.tgt i e (mem_entDel.1 he).1) (fun j hj => ?_) (acc_mono (fun j x hx => drop_par hh hx) h.acyc)
 have := drop_links h hh hg j
 have := h.single j hj
 unfold dropTo at *
 omega
def onePend (k : Int) : Int -> Nat := fun j => if j = k then 1 else 0
theorem onePend_pos (k : Int) : 0 < onePend k k := by unfold onePend; rw [if_pos rfl]; decide
theorem decAt_onePend (k : Int) : decAt (onePend k) k = zp := by
 funext j
 unfold decAt onePend zp
 split <;> simp_all
theorem Casc.drop {R R' : RD} {w w' : World} {a : Nat} {room : Int} {lk up : Int -> Int} (hC : Casc R w a d room lk up zp) (hcl : NoGarb d) (hi : (nd d i).kind = 2) (hg : entGet (nd d i).ents name = some k)
 (rep : Rep R' w' a (dropTo d i name) room (used (dropTo d i name)) lk up) : Casc R' w' a (dropTo d i name) room lk up (onePend k) ∧ ∀ j, ¬ PG (dropTo d i name) (onePend k) j := by
 have hh := setE_pos hC.inv hi
 have hhas : ∀ j, has (dropTo d i name) j ↔ has d j := has_setE hh _
 have hl := fun j => drop_links (k := k) hC.inv hh hg j
 have hm := drop_mass hC.inv hh hg
 refine ⟨⟨rep, drop_inv hC.inv hi hg, fun j hj => ?_, fun j hj => ?_, fun j hj => ?_, ?_, fun j hj => hC.lkb j ((hhas j).1 hj)⟩, fun j hj => ?_⟩
 ·have h1 := hC.cnt j ((hhas j).1 hj)
  have h2 := hl j
  unfold zp at h1
  unfold onePend
  by_cases e : k = j
  ·subst e; rw [if_pos rfl] at h2 ⊢; omega
  ·rw [if_neg e] at h2; rw [if_neg (fun h => e h.symm)]; omega
 ·unfold onePend at hj
  split at hj
  ·next e => subst e; exact (hhas j).2 (hC.inv.tgt i _ (entGet_mem hg)).1
  ·omega
 ·obtain ⟨u1, u2, u3⟩ := hC.upok j ((hhas j).1 hj)
  exact ⟨fun x hx => u1 x (drop_par hh hx), u2, u3⟩
 ·have := hC.small
  unfold smallD at *
  omega
 ·obtain ⟨g1, g2, g3, g4⟩ := hj
  have h2 := hl j
  rw [show (nd (dropTo d i name) j).holds = (nd d j).holds from holds_setE hh _ j] at g4
  unfold onePend at g3
  refine hcl j ⟨(hhas j).1 g1, ?_, g4⟩
  rw [h2, g2]
  split
  ·next e => subst e; rw [if_pos rfl] at g3; cases g3
  ·rfl
end leave
end
def movedAt (d : Nds) (t : Int) (other : ByteArray) (k : Int) : List Ent := if entHas (nd d t).ents other then entSet (nd d t).ents other k else entPut (nd d t).ents other k
def moveMid (d : Nds) (t : Int) (other : ByteArray) (k : Int) : Nds := setE d t (movedAt d t other k)
def moveTo (d : Nds) (f : Int) (name : ByteArray) (t : Int) (other : ByteArray) (k : Int) : Nds := dropTo (moveMid d t other k) f name
def movePend (d : Nds) (t : Int) (other : ByteArray) : Int -> Nat := match entGet (nd d t).ents other with | some old => onePend old | none => zp
structure MoveOk (d : Nds) (f : Int) (name : ByteArray) (t : Int) (other : ByteArray) (k : Int) : Prop where
 inv : DInv d
 f2 : (nd d f).kind = 2
 t2 : (nd d t).kind = 2
 get : entGet (nd d f).ents name = some k
 ne : ¬ (f = t ∧ name = other)
 put : entHas (nd d t).ents other = false -> putErr (nd d t).ents other = 0
 top : (nd d k).kind = 2 -> ¬ Above d k t
section
variable {d : Nds} {f t k : Int} {name other : ByteArray} (M : MoveOk d f name t other k)
include M
theorem MoveOk.hf : has d f := setE_pos M.inv M.f2
theorem MoveOk.ht : has d t := setE_pos M.inv M.t2
theorem MoveOk.hk : has d k := (M.inv.tgt f _ (entGet_mem M.get)).1
theorem MoveOk.k1 : k ≠ 1 := (M.inv.tgt f _ (entGet_mem M.get)).2
theorem MoveOk.rt : Rising (nd d t).ents := (M.inv.node t).rising
theorem MoveOk.hfm : has (moveMid d t other k) f := (has_setE M.ht _ f).2 M.hf
theorem MoveOk.okOther : okName other = true := by
 cases h : entHas (nd d t).ents other with
 | false => exact (putErr_zero.1 (M.put h)).1
 | true =>
   obtain ⟨e, he, rfl⟩ := entHas_iff.1 h
   exact (M.inv.node t).names e he
theorem MoveOk.mem_at (e : Ent) (h : e ∈ movedAt d t other k) : e ∈ (nd d t).ents ∨ e = (other, k) := by
 have _ := M.inv
 unfold movedAt at h
 split at h
 ·rcases mem_entSet.1 h with h1 | h1
  ·exact .inl h1.1
  ·exact .inr h1.1
 ·next hh =>
  exact (mem_entPut (by simpa using hh) e).1 h
theorem MoveOk.rising_at : Rising (movedAt d t other k) := by
 unfold movedAt
 split
 ·exact M.rt.set _ _
 ·exact M.rt.put _ _
theorem MoveOk.get_mid : entGet (nd (moveMid d t other k) f).ents name = some k := by
 unfold moveMid
 rw [ents_setE M.ht]
 split
 ·next e =>
  subst e
  have hne : name ≠ other := fun h => M.ne ⟨rfl, h⟩
  unfold movedAt
  split
  ·rw [entGet_set_other M.rt hne]; exact M.get
  ·next hh => rw [entGet_put_other M.rt (by simpa using hh) hne]; exact M.get
 ·exact M.get
theorem MoveOk.ents (j : Int) : (nd (moveTo d f name t other k) j).ents = if j = f then entDel (nd (moveMid d t other k) f).ents name else if j = t then movedAt d t other k else (nd d j).ents := by
 unfold moveTo dropTo
 rw [ents_setE M.hfm]
 split
 ·rfl
 ·unfold moveMid; rw [ents_setE M.ht]
theorem MoveOk.rising_mid (j : Int) : Rising (nd (moveMid d t other k) j).ents := by
 unfold moveMid
 rw [ents_setE M.ht]
 split
 ·exact M.rising_at
 ·exact (M.inv.node j).rising
theorem MoveOk.mem (j : Int) (e : Ent) (h : e ∈ (nd (moveTo d f name t other k) j).ents) : (e ∈ (nd d j).ents ∧ (j = f -> e.1 ≠ name)) ∨ (j = t ∧ e = (other, k)) := by
 rw [M.ents] at h
 have hmid : ∀ x ∈ (nd (moveMid d t other k) j).ents, x ∈ (nd d j).ents ∨ (j = t ∧ x = (other, k)) := fun x hx => by
  unfold moveMid at hx
  rw [ents_setE M.ht] at hx
  split at hx
  ·next e => subst e; exact (M.mem_at x hx).imp id (fun h => ⟨rfl, h⟩)
  ·exact .inl hx
 split at h
 ·next e => subst e
            obtain ⟨h1, h2⟩ := mem_entDel.1 h
            exact (hmid e h1).imp (fun h => ⟨h, fun _ => h2⟩) id
 ·next e1 =>
  split at h
  ·next e => subst e; exact (M.mem_at e h).imp (fun h => ⟨h, fun h => absurd h e1⟩) (fun h => ⟨rfl, h⟩)
  ·exact .inl ⟨h, fun h => absurd h e1⟩
theorem MoveOk.kind (j : Int) : (nd (moveTo d f name t other k) j).kind = (nd d j).kind := by
 unfold moveTo dropTo
 rw [kind_setE M.hfm]
 exact kind_setE M.ht _ j
theorem MoveOk.holds (j : Int) : (nd (moveTo d f name t other k) j).holds = (nd d j).holds := by
 unfold moveTo dropTo
 rw [holds_setE M.hfm]
 exact holds_setE M.ht _ j
theorem MoveOk.has (j : Int) : Go.Proofs.YtimidmogcbapnaaGreatDoor.has (moveTo d f name t other k) j ↔ Go.Proofs.YtimidmogcbapnaaGreatDoor.has d j := by
 unfold Go.Proofs.YtimidmogcbapnaaGreatDoor.has
 rw [M.kind]
theorem MoveOk.links (j : Int) : Go.Proofs.YtimidmogcbapnaaGreatDoor.links d j = Go.Proofs.YtimidmogcbapnaaGreatDoor.links (moveTo d f name t other k) j + movePend d t other j := by
 have h1 := links_setE M.ht (movedAt d t other k) j
 have h2 := links_setE M.hfm (entDel (nd (moveMid d t other k) f).ents name) j
 have h3 := nms_del (M.rising_mid f) M.get_mid j
 unfold moveTo dropTo
 have h4 : nms j (movedAt d t other k) + movePend d t other j = nms j (nd d t).ents + if k = j then 1 else 0 := by
  unfold movedAt movePend
  cases hg : entGet (nd d t).ents other with
  | none =>
    have hh : entHas (nd d t).ents other = false := by rw [<- entGet_isSome, hg]; rfl
    rw [if_neg (by rw [hh]; decide), nms_put hh]
    unfold zp; rfl
  | some old =>
    rw [if_pos (entGet_has hg), <- nms_set M.rt k hg j]
    unfold onePend
    by_cases e : old = j
    ·subst e; simp
    ·have e2 : ¬ j = old := fun h => e h.symm
     simp [e, e2]
 have hm : Go.Proofs.YtimidmogcbapnaaGreatDoor.links (moveMid d t other k) j = Go.Proofs.YtimidmogcbapnaaGreatDoor.links (setE d t (movedAt d t other k)) j := rfl
 omega
theorem MoveOk.used : Go.Proofs.YtimidmogcbapnaaGreatDoor.used (moveTo d f name t other k) + name.size = Go.Proofs.YtimidmogcbapnaaGreatDoor.used d + (if entHas (nd d t).ents other then 0 else other.size) := by
 have h1 := used_setE M.ht (movedAt d t other k)
 have h2 := used_setE M.hfm (entDel (nd (moveMid d t other k) f).ents name)
 have h3 := entSize_del (M.rising_mid f) M.get_mid
 have h4 : entSize (movedAt d t other k) = entSize (nd d t).ents + (if entHas (nd d t).ents other then 0 else other.size) := by
  unfold movedAt
  cases hh : entHas (nd d t).ents other with
  | false => simp only [Bool.false_eq_true, if_false]; exact entSize_put hh
  | true =>
    simp only [if_true]
    rw [<- entGet_isSome] at hh
    obtain ⟨old, ho⟩ := Option.isSome_iff_exists.1 hh
    rw [entSize_set M.rt k ho]; rfl
 have hm : Go.Proofs.YtimidmogcbapnaaGreatDoor.used (moveMid d t other k) = Go.Proofs.YtimidmogcbapnaaGreatDoor.used (setE d t (movedAt d t other k)) := rfl
 unfold moveTo dropTo
 omega
theorem MoveOk.mass : Go.Proofs.YtimidmogcbapnaaGreatDoor.mass (moveTo d f name t other k) <= Go.Proofs.YtimidmogcbapnaaGreatDoor.mass d := by
 have h1 := mass_setE M.ht (movedAt d t other k)
 have h2 := mass_setE M.hfm (entDel (nd (moveMid d t other k) f).ents name)
 have h3 := len_del (M.rising_mid f) M.get_mid
 have h4 : (movedAt d t other k).length <= (nd d t).ents.length + 1 := by
  unfold movedAt
  cases hh : entHas (nd d t).ents other with
  | false => simp only [Bool.false_eq_true, if_false]; rw [len_put hh]; exact Nat.le_refl _
  | true => simp only [if_true]; rw [len_set]; omega
 have hm : Go.Proofs.YtimidmogcbapnaaGreatDoor.mass (moveMid d t other k) = Go.Proofs.YtimidmogcbapnaaGreatDoor.mass (setE d t (movedAt d t other k)) := rfl
 unfold moveTo dropTo
 omega
theorem MoveOk.par {j x : Int} (h : Par (moveTo d f name t other k) j x) : (x ≠ k ∧ Par d j x) ∨ (x = k ∧ j = t) := by
 obtain ⟨h1, e, h2, h3⟩ := h
 rw [M.kind] at h1
 rcases M.mem j e h2 with ⟨h4, h5⟩ | ⟨h4, h5⟩
 ·refine .inl ⟨fun hx => ?_, h1, e, h4, h3⟩
  subst hx
  obtain ⟨e1, e2⟩ := M.inv.named_once h1 h4 h3 (entGet_mem M.get) rfl
  subst e1
  subst e2
  exact h5 rfl rfl
 ·subst h5; exact .inr ⟨h3.symm, h4⟩
theorem MoveOk.after : DInv (moveTo d f name t other k) := by
 refine M.inv.turned ?_ (fun j => ?_) (fun j hj => ?_) ?_
 ·unfold moveTo dropTo moveMid
  rw [length_setE, length_setE]
 ·refine ⟨(nd (moveTo d f name t other k) j).ents, ?_, ?_, fun e he => ?_, fun h2 => ?_⟩
  ·unfold moveTo dropTo
   rw [nd_setE M.hfm]
   split
   ·next e => subst e
              unfold moveMid
              rw [nd_setE M.ht]
              split
              ·next e => subst e; rfl
              ·rfl
   ·unfold moveMid
    rw [nd_setE M.ht]
    split
    ·next e => subst e; rfl
    ·rfl
  ·rw [M.ents]
   split
   ·exact (M.rising_mid f).del name
   ·split
    ·exact M.rising_at
    ·exact (M.inv.node j).rising
  ·rcases M.mem j e he with ⟨h1, _⟩ | ⟨_, h1⟩
   ·exact ⟨(M.inv.node j).names e h1, M.inv.tgt j e h1⟩
   ·subst h1; exact ⟨M.okOther, M.hk, M.k1⟩
  ·rw [M.ents]
   have h3 : j ≠ f := fun e => h2 (by subst e; exact M.f2)
   have h4 : j ≠ t := fun e => h2 (by subst e; exact M.t2)
   rw [if_neg h3, if_neg h4]
   exact (M.inv.node j).flat h2
 ·have := M.links j
  have := M.inv.single j hj
  omega
 ·by_cases h2 : (nd d k).kind = 2
  ·exact acc_reparent (fun j x hx => M.par hx) M.inv.acyc (M.top h2)
  ·refine acc_mono (fun j x hx => ?_) M.inv.acyc
   rcases M.par hx with h3 | ⟨h3, _⟩
   ·exact h3.2
   ·subst h3
    have := hx.1
    rw [M.kind] at this
    exact absurd this h2
theorem MoveOk.casc {R R' : RD} {w w' : World} {a : Nat} {room : Int} {lk up : Int -> Int} (hC : Casc R w a d room lk up zp) (hcl : NoGarb d)
 (rep : Rep R' w' a (moveTo d f name t other k) room (Go.Proofs.YtimidmogcbapnaaGreatDoor.used (moveTo d f name t other k)) lk (if (nd d k).kind = 2 then setAt up k t else up)) :
 Casc R' w' a (moveTo d f name t other k) room lk (if (nd d k).kind = 2 then setAt up k t else up) (movePend d t other) ∧ ∀ j, ¬ PG (moveTo d f name t other k) (movePend d t other) j := by
 have hl := M.links
 have hm := M.mass
 have hpend : ∀ j, 0 < movePend d t other j -> Go.Proofs.YtimidmogcbapnaaGreatDoor.has d j := fun j hj => by
  unfold movePend at hj
  cases ho : entGet (nd d t).ents other with
  | none => rw [ho] at hj; simp only at hj; unfold zp at hj; omega
  | some old =>
    rw [ho] at hj
    simp only at hj
    unfold onePend at hj
    split at hj
    ·next e => subst e; exact (M.inv.tgt t _ (entGet_mem ho)).1
    ·omega
 refine ⟨⟨rep, M.after, fun j hj => ?_, fun j hj => (M.has j).2 (hpend j hj), fun j hj => ?_, ?_, fun j hj => hC.lkb j ((M.has j).1 hj)⟩, fun j hj => ?_⟩
 ·have h1 := hC.cnt j ((M.has j).1 hj)
  have h2 := hl j
  unfold zp at h1
  omega
 ·have hj' := (M.has j).1 hj
  obtain ⟨u1, u2, u3⟩ := hC.upok j hj'
  by_cases e : j = k
  ·subst e
   refine ⟨fun x hx => ?_, fun e1 => absurd e1 M.k1, fun e0 => ?_⟩
   ·have hk2 := hx.1
    rw [M.kind] at hk2
    rw [if_pos hk2, setAt_same]
    rcases M.par hx with ⟨h1, _⟩ | ⟨_, h2⟩
    ·exact absurd rfl h1
    ·exact h2.symm
   ·have h1 := hC.cnt j hj'
    have h2 : 0 < Go.Proofs.YtimidmogcbapnaaGreatDoor.links d j := by
     have := (cnt_pos (i := j)).2 ⟨f, (name, j), entGet_mem M.get, rfl⟩
     unfold Go.Proofs.YtimidmogcbapnaaGreatDoor.links
     omega
    omega
  ·have : (if (nd d k).kind = 2 then setAt up k t else up) j = up j := by
    split
    ·exact setAt_other e
    ·rfl
   rw [this]
   refine ⟨fun x hx => ?_, u2, u3⟩
   rcases M.par hx with ⟨_, h1⟩ | ⟨h1, _⟩
   ·exact u1 x h1
   ·exact absurd h1 e
 ·have := hC.small
  unfold smallD at *
  omega
 ·obtain ⟨g1, g2, g3, g4⟩ := hj
  rw [M.holds] at g4
  have := hl j
  exact hcl j ⟨(M.has j).1 g1, by omega, g4⟩
end
set_option maxRecDepth 100000
set_option maxHeartbeats 1000000
def enterErr (d : Nds) (room i : Int) (name : ByteArray) (k : Int) : Int :=
 if folderErr d i ≠ 0 then folderErr d i else if (nd d k).kind = 0 then 12 else if (nd d k).kind = 2 ∧ 0 < links d k then 22 else if 32768 <= links d k then 24
 else if putErr (nd d i).ents name ≠ 0 then putErr (nd d i).ents name else if room - used d < name.size then 20 else 0
def enterD (d : Nds) (room i : Int) (name : ByteArray) (k : Int) : Nds := if enterErr d room i name k = 0 then enterTo d i name k else d
section
variable {R : RD} {w : World} {a : Nat} {d : Nds} {room : Int} {lk up : Int -> Int}
theorem Rep.turnA {R1 : RD} {w1 w2 : World} {d' : Nds} {us : Int} (h : Rep R1 w1 a d' room us lk up) (hT : Turn R w R1 w1) (k : Keeps (fun x => x = a) w1 w2) : Turn R w R1 w2 :=
 hT.trans (Turn.of (k.mono (fun x _ hx => by subst hx; exact h.fA)))
theorem enter_facts {i k : Int} {name : ByteArray} {w1 : World} (hC : Casc R w a d room lk up zp) (hcl : NoGarb d) (hmax : room <= 9223372036854775807) (hi : (nd d i).kind = 2) (hk : has d k) (hkl : (nd d k).kind = 2 -> links d k = 0)
 (hp : putErr (nd d i).ents name = 0) (hno : (nd d k).kind = 2 -> ¬ Above d k i) (hb : mass d + 1 <= 2147483648) (hfit : (used d : Int) + name.size <= room) (hsz : name.size <= 4294967296) (ht : DTo w w1 ⟨R.g i, 5, none⟩ (R.ev i) (putTo (nd d i).ents name k)) :
 Calls Tryz.prog 55 #[.pointer (some ⟨a, 0, none⟩), .int .i64 name.size] w1 fun e w2 => e = .returned (.bool true) ∧ w2.cell? ⟨R.g k, 0, none⟩ = some (.int .i64 (nd d k).kind) ∧ w2.cell? ⟨R.g k, 2, none⟩ = some (.int .i64 (links d k)) ∧ w2.cell? ⟨R.g k, 6, none⟩ = some (.int .i64 (up k)) ∧
  w2.frozen? ⟨R.g k, 2, none⟩ = false ∧ w2.frozen? ⟨R.g k, 6, none⟩ = false ∧
  DiskTo R w a (enterTo d i name k) room (if (nd d k).kind = 2 then (w2.setCell ⟨R.g k, 2, none⟩ (.int .i64 ((links d k : Int) + 1))).setCell ⟨R.g k, 6, none⟩ (.int .i64 i) else w2.setCell ⟨R.g k, 2, none⟩ (.int .i64 ((links d k : Int) + 1))) := by
 have hh := setE_pos hC.inv hi
 have hcnt := hC.cnt k hk
 have hlk : lk k = links d k := by rw [hcnt]; unfold zp; rfl
 rw [<- hlk]
 rw [show putTo (nd d i).ents name k = entPut (nd d i).ents name k from if_pos hp] at ht
 obtain ⟨R1, hR1, hT1, hg1, hb1⟩ := hC.rep.setDir hh ht
 have hR1 : Rep R1 w1 a (enterTo d i name k) room (used d) lk up := hR1
 have hul := used_le2 hC.inv hC.small
 refine (take_any hR1 name.size (by omega) (by omega) hmax (by omega) (by omega)).mono fun e w2 ⟨h1, h2, h3⟩ => ?_
 rw [show (decide ((name.size : Int) <= room - used d)) = true from decide_eq_true (by omega)] at h1
 rw [show takeU room (used d) name.size = used d + name.size from if_pos (by omega)] at h2
 have hk1 : has (enterTo d i name k) k := (has_setE hh _ k).2 hk
 have hn := h2.node k hk1
 rw [hg1] at hn
 have hkind : (nd (enterTo d i name k) k).kind = (nd d k).kind := kind_setE hh _ k
 refine ⟨h1, by rw [hn.kind, hkind], hn.links, hn.up, hn.fz 2, hn.fz 6, ?_⟩
 have hT2 := hR1.turnA hT1 h3
 have hu := enter_used (k := k) hh hp
 have hR3 := h2.setLinks hk1 (lk k + 1)
 have hsm : smallD (enterTo d i name k) := by unfold smallD; rw [enter_mass hh hp]; omega
 have k1 : Keeps R1.F w2 (w2.setCell ⟨R1.g k, 2, none⟩ (.int .i64 (lk k + 1))) := (Keeps.refl _ _).setCell (.inl (h2.fN hk1)) _
 rw [<- hg1]
 by_cases hk2 : (nd d k).kind = 2
 ·rw [if_pos hk2]
  have hR4 := hR3.setUp hk1 i
  refine ⟨R1, IsDisk.enter hC hcl hi hk hkl hp hno ?_ hsm (by rw [hu]; omega) hmax, hT2.trans (Turn.of (k1.setCell (.inl (hR3.fN hk1)) _))⟩
  rw [if_pos hk2, hu]
  exact_mod_cast hR4
 ·rw [if_neg hk2]
  refine ⟨R1, IsDisk.enter hC hcl hi hk hkl hp hno ?_ hsm (by rw [hu]; omega) hmax, hT2.trans (Turn.of k1)⟩
  rw [if_neg hk2, hu]
  exact_mod_cast hR3
theorem enter_back {i k : Int} {name : ByteArray} {w1 : World} (hC : Casc R w a d room lk up zp) (hcl : NoGarb d) (hfit0 : (used d : Int) <= room) (hmax : room <= 9223372036854775807) (hi : (nd d i).kind = 2)
 (hp : putErr (nd d i).ents name = 0) (hfit : room - used d < name.size) (hsz : name.size <= 4294967296) (ht : DTo w w1 ⟨R.g i, 5, none⟩ (R.ev i) (putTo (nd d i).ents name k)) :
 Calls Tryz.prog 55 #[.pointer (some ⟨a, 0, none⟩), .int .i64 name.size] w1 fun e w2 => e = .returned (.bool false) ∧
  Calls Tryz.prog 90 #[.pointer (some ⟨R.g i, 5, none⟩), .string name] w2 fun e w3 => e = .returned (.int .i64 0) ∧ DiskTo R w a d room w3 := by
 have hh := setE_pos hC.inv hi
 obtain ⟨hok, hhas⟩ := putErr_zero.1 hp
 rw [show putTo (nd d i).ents name k = entPut (nd d i).ents name k from if_pos hp] at ht
 obtain ⟨R1, hR1, hT1, hg1, hb1⟩ := hC.rep.setDir hh ht
 have hR1 : Rep R1 w1 a (enterTo d i name k) room (used d) lk up := hR1
 have hul := used_le2 hC.inv hC.small
 refine (take_any hR1 name.size (by omega) (by omega) hmax (by omega) (by omega)).mono fun e w2 ⟨h1, h2, h3⟩ => ?_
 rw [show (decide ((name.size : Int) <= room - used d)) = false from decide_eq_false (by omega)] at h1
 rw [show takeU room (used d) name.size = used d from if_neg (by omega)] at h2
 have hi1 : has (enterTo d i name k) i := (has_setE hh _ i).2 hh
 have hents : (nd (enterTo d i name k) i).ents = entPut (nd d i).ents name k := by unfold enterTo; rw [ents_setE hh, if_pos rfl]
 have hn := (h2.node i hi1).dir
 have hlen := nd_ents_len hC.small i
 have hl2 := len_put (k := k) hhas
 rw [hg1, hents] at hn
 have hlen2 : (nd d i).ents.length <= 2147483648 := by
  have h1 := sumBy_ge mass1 (has_range hh).1 (has_range hh).2
  have := hC.small
  unfold smallD mass at this
  unfold mass1 at h1
  unfold mass1 at this
  omega
 refine ⟨h1, (drop_d w2 ⟨R.g i, 5, none⟩ (R1.ev i) _ name hn (by omega)).mono fun e w3 ⟨h4, h5⟩ => ?_⟩
 have hput : entHas (entPut (nd d i).ents name k) name = true := by rw [entHas_put hhas]; simp
 rw [show hasErr (entPut (nd d i).ents name k) name = 0 by unfold hasErr; rw [if_pos hput]] at h4
 rw [entDel_put (hC.inv.node i).rising hhas] at h5
 rw [<- hg1] at h5
 obtain ⟨R3, hR3, hT3, _, _⟩ := h2.setDir hi1 h5
 have hd : upd (enterTo d i name k) i ((nd (enterTo d i name k) i).setEnts (nd d i).ents) = d := by
  show setE (setE d i (entPut (nd d i).ents name k)) i (nd d i).ents = d
  rw [setE_setE hh, setE_self hh]
 rw [hd] at hR3
 exact ⟨h4, R3, ⟨⟨lk, up, hC.re hR3⟩, hcl, hfit0, hmax⟩, (hR1.turnA hT1 h3).trans hT3⟩
theorem enter_same {i k : Int} {name : ByteArray} {w1 : World} (hC : Casc R w a d room lk up zp) (hcl : NoGarb d) (hfit0 : (used d : Int) <= room) (hmax : room <= 9223372036854775807) (hi : (nd d i).kind = 2)
 (hp : putErr (nd d i).ents name ≠ 0) (ht : DTo w w1 ⟨R.g i, 5, none⟩ (R.ev i) (putTo (nd d i).ents name k)) : DiskTo R w a d room w1 := by
 have hh := setE_pos hC.inv hi
 rw [show putTo (nd d i).ents name k = (nd d i).ents from if_neg hp] at ht
 obtain ⟨R1, hR1, hT1, hg1, hb1⟩ := hC.rep.setDir hh ht
 rw [show upd d i ((nd d i).setEnts (nd d i).ents) = d from setE_self hh] at hR1
 exact ⟨R1, ⟨⟨lk, up, hC.re hR1⟩, hcl, hfit0, hmax⟩, hT1⟩
theorem enterD_any (h : IsDisk R w a d room) (i : Int) (name : ByteArray) (k : Int) (hsz : name.size <= 4294967296) (hb : mass d + 1 <= 2147483648) (hno : folderErr d i = 0 -> (nd d k).kind = 2 -> ¬ Above d k i) :
 Calls Tryz.prog 51 #[.pointer (some ⟨a, 0, none⟩), .int .i64 i, .string name, .int .i64 k] w fun e w' => e = .returned (.int .i64 (enterErr d room i name k)) ∧ DiskTo R w a (enterD d room i name k) room w' := by
 have H := Lib.hid h
 obtain ⟨⟨lk, up, hC⟩, hcl, hfit, hmax⟩ := h
 have hf := folder_any hC.rep i
 unfold enterD
 by_cases c0 : folderErr d i = 0
 case neg =>
  have e : enterErr d room i name k = folderErr d i := if_pos c0
  rw [e, if_neg c0]
  have hp : ptrIf R (folderErr d i) i = .pointer none := if_neg c0
  rw [hp] at hf
  clear hC hcl hfit hmax e
  generalize folderErr d i = er at *
  go_enter Tryz.func51, Tryz.ntmps51
  go_wp2_with (go_at_call 88; refine hf.mono ?_; rintro e w1 ⟨rfl, rfl⟩)
  go_ret
  exact ⟨rfl, H.out.same (Keeps.refl _ _)⟩
 case pos =>
 obtain ⟨hi, hk1⟩ := folderErr_zero c0
 rw [c0] at hf
 have hp : ptrIf R 0 i = .pointer (some ⟨R.g i, 0, none⟩) := rfl
 rw [hp] at hf
 have hl := hC.rep.l
 have hlook := hC.rep.look k
 unfold nodeV at hlook
 have hE0 : ∀ (P : Int -> Prop), P (if (nd d k).kind = 0 then 12 else if (nd d k).kind = 2 ∧ 0 < links d k then 22 else if 32768 <= links d k then 24
  else if putErr (nd d i).ents name ≠ 0 then putErr (nd d i).ents name else if room - used d < name.size then 20 else 0) -> P (enterErr d room i name k) := fun P hP => by
  unfold enterErr; rw [if_neg (by simpa using c0)]; exact hP
 by_cases hk : has d k
 case neg =>
  rw [if_neg hk] at hlook
  have e : enterErr d room i name k = 12 := hE0 (fun x => x = 12) (if_pos (not_has hk))
  rw [e, if_neg (by decide)]
  clear hC hcl hfit hmax e hE0
  go_enter Tryz.func51, Tryz.ntmps51
  go_wp2_with (go_at_call 88; refine hf.mono ?_; rintro e w1 ⟨rfl, rfl⟩)
  go_ret
  exact ⟨rfl, H.out.same (Keeps.refl _ _)⟩
 case pos =>
 rw [if_pos hk] at hlook
 have hk0 : ¬ (nd d k).kind = 0 := hk
 have hE1 : ∀ (P : Int -> Prop), P (if (nd d k).kind = 2 ∧ 0 < links d k then 22 else if 32768 <= links d k then 24
  else if putErr (nd d i).ents name ≠ 0 then putErr (nd d i).ents name else if room - used d < name.size then 20 else 0) -> P (enterErr d room i name k) := fun P hP => hE0 P (by rw [if_neg hk0]; exact hP)
 have hn := hC.rep.node k hk
 have c1 := hn.kind
 have c2 := hn.links
 have hcnt := hC.cnt k hk
 have hlk : lk k = links d k := by rw [hcnt]; unfold zp; rfl
 rw [hlk] at c2
 by_cases d1 : (nd d k).kind = 2 ∧ 0 < links d k
 ·have e : enterErr d room i name k = 22 := hE1 (fun x => x = 22) (if_pos d1)
  rw [e, if_neg (by decide)]
  obtain ⟨d2, d3⟩ := d1
  rw [d2] at c1
  have d3' : (0 : Int) < (links d k : Int) := by omega
  clear hC hcl hfit hmax e hE0 hE1 hn hcnt hlk hk0 hno d2 d3
  generalize (links d k : Int) = lks at *
  go_enter Tryz.func51, Tryz.ntmps51
  go_wp2_with (go_at_call 88; refine hf.mono ?_; rintro e w1 ⟨rfl, rfl⟩)
  go_ret
  exact ⟨rfl, H.out.same (Keeps.refl _ _)⟩
 have hE2 : ∀ (P : Int -> Prop), P (if 32768 <= links d k then 24
  else if putErr (nd d i).ents name ≠ 0 then putErr (nd d i).ents name else if room - used d < name.size then 20 else 0) -> P (enterErr d room i name k) := fun P hP => hE1 P (by rw [if_neg d1]; exact hP)
 have d1' : (nd d k).kind ≠ 2 ∨ ((nd d k).kind = 2 ∧ (links d k : Int) = 0) := by
  by_cases e2 : (nd d k).kind = 2
  ·exact .inr ⟨e2, by have := Nat.eq_zero_of_not_pos (fun h => d1 ⟨e2, h⟩); omega⟩
  ·exact .inl e2
 have hlen := nd_ents_len hC.small i
 have hdir := (hC.rep.node i hi).dir
 have hput := Lib.hid (put_d w ⟨R.g i, 5, none⟩ (R.ev i) (nd d i).ents name k hdir (by omega))
 by_cases d2 : 32768 <= links d k
 ·have e : enterErr d room i name k = 24 := hE2 (fun x => x = 24) (if_pos d2)
  rw [e, if_neg (by decide)]
  have d2' : (links d k : Int) ≥ 32768 := by omega
  have d3 : (nd d k).kind ≠ 2 := d1'.elim id (fun h => by have := h.2; omega)
  clear hC hcl hfit hmax e hE0 hE1 hE2 hn hcnt hlk hk0 hno d1 d1' d2 hput hdir hlen
  generalize (links d k : Int) = lks at *
  go_enter Tryz.func51, Tryz.ntmps51
  go_wp2_with (go_at_call 88; refine hf.mono ?_; rintro e w1 ⟨rfl, rfl⟩)
  go_ret
  exact ⟨rfl, H.out.same (Keeps.refl _ _)⟩
 have hE3 : ∀ (P : Int -> Prop), P (if putErr (nd d i).ents name ≠ 0 then putErr (nd d i).ents name else if room - used d < name.size then 20 else 0) -> P (enterErr d room i name k) := fun P hP => hE2 P (by rw [if_neg d2]; exact hP)
 have d2' : ¬ (32768 <= (links d k : Int)) := by omega
 have d2'' : (32768 <= (links d k : Int)) = False := by simp; omega
 by_cases d3 : putErr (nd d i).ents name = 0
 case neg =>
  have e : enterErr d room i name k = putErr (nd d i).ents name := hE3 (fun x => x = putErr (nd d i).ents name) (if_pos d3)
  rw [e, if_neg d3]
  have HP := Lib.hid (fun (w1 : World) => enter_same (w1 := w1) (k := k) hC hcl hfit hmax hk1 d3)
  clear hC hcl hfit hmax e hE0 hE1 hE2 hE3 hn hcnt hlk hk0 hno d1 d2 hdir hlen
  generalize putErr (nd d i).ents name = pe at *
  generalize (links d k : Int) = lks at *
  rcases d1' with d4 | ⟨d4, d5⟩
  case' inl => generalize (nd d k).kind = kd at *
  case' inr => rw [d4] at c1; subst d5
  all_goals
   go_enter Tryz.func51, Tryz.ntmps51
   go_wp2_with (first | (go_at_call 88; refine hf.mono ?_; rintro e w1 ⟨rfl, rfl⟩) | (go_at_call 89; refine hput.out.mono ?_; rintro e w1 ⟨rfl, ht⟩))
   go_ret
   exact ⟨rfl, HP.out w1 ht⟩
 case pos =>
 have hE4 : ∀ (P : Int -> Prop), P (if room - used d < name.size then 20 else 0) -> P (enterErr d room i name k) := fun P hP => hE3 P (by rw [if_neg (by simpa using d3)]; exact hP)
 rw [d3] at hput
 have hkl : (nd d k).kind = 2 -> links d k = 0 := fun e => d1'.elim (fun h => absurd e h) (fun h => by have := h.2; omega)
 by_cases d4 : room - used d < name.size
 ·have e : enterErr d room i name k = 20 := hE4 (fun x => x = 20) (if_pos d4)
  rw [e, if_neg (by decide)]
  have HP := Lib.hid (fun (w1 : World) => enter_back (w1 := w1) (k := k) hC hcl hfit hmax hk1 d3 d4 hsz)
  clear hC hcl hfit hmax e hE0 hE1 hE2 hE3 hE4 hn hcnt hlk hk0 hno d1 d2 hdir hlen hkl d4 d3
  generalize (links d k : Int) = lks at *
  rcases d1' with d4 | ⟨d4, d5⟩
  case' inl => generalize (nd d k).kind = kd at *
  case' inr => rw [d4] at c1; subst d5
  all_goals
   go_enter Tryz.func51, Tryz.ntmps51
   go_wp2_with (first | (go_at_call 88; refine hf.mono ?_; rintro e w1 ⟨rfl, rfl⟩) | (go_at_call 89; refine hput.out.mono ?_; rintro e w1 ⟨rfl, ht⟩) | (go_at_call 55; refine (HP.out _ ht).mono ?_; rintro e w2 ⟨rfl, hdr⟩) | (go_at_call 90; refine hdr.mono ?_; rintro e w3 ⟨rfl, hend⟩))
   go_ret
   exact ⟨rfl, hend⟩
 ·have e : enterErr d room i name k = 0 := hE4 (fun x => x = 0) (if_neg d4)
  rw [e, if_pos rfl]
  have HP := Lib.hid (fun (w1 : World) => enter_facts (w1 := w1) hC hcl hmax hk1 hk hkl d3 (hno c0) hb (by omega) hsz)
  clear hC hcl hfit hmax e hE0 hE1 hE2 hE3 hE4 hn hcnt hlk hk0 hno d1 d2 hdir hlen hkl d4 d3 hb
  have hwr : wrap64 ((links d k : Int) + 1) = (links d k : Int) + 1 := IntWalk.wrap64_in _ (by omega)
  generalize (links d k : Int) = lks at *
  rcases d1' with d4 | ⟨d4, d5⟩
  case' inl => generalize (nd d k).kind = kd at *
  case' inr => rw [d4] at c1 HP; subst d5
  all_goals
   go_enter Tryz.func51, Tryz.ntmps51
   go_wp2_with (first | (go_at_call 88; refine hf.mono ?_; rintro e w1 ⟨rfl, rfl⟩) | (go_at_call 89; refine hput.out.mono ?_; rintro e w1 ⟨rfl, ht⟩) | (go_at_call 55; refine (HP.out _ ht).mono ?_; rintro e w2 ⟨rfl, f0, f2, f6, z2, z6, hend⟩; have HEn := Lib.hid hend; clear hend))
   go_ret
   refine ⟨rfl, ?_⟩
   have hz := HEn.out
   first | (rw [if_neg d4] at hz; exact hz) | (rw [if_pos trivial] at hz; exact hz)
end
set_option maxRecDepth 100000
set_option maxHeartbeats 1000000
section
variable {R : RD} {w : World} {a : Nat} {d : Nds} {room : Int} {lk up : Int -> Int}
theorem lookErr_zero {d : Nds} {i : Int} {name : ByteArray} (h : lookErr d i name = 0) : folderErr d i = 0 ∧ entGet (nd d i).ents name = some (lookOf d i name) := by
 unfold lookErr at h
 unfold lookOf
 split at h
 ·next e => exact absurd h e
 ·next e =>
  split at h
  ·next e2 =>
   obtain ⟨k, hk⟩ := Option.isSome_iff_exists.1 e2
   rw [if_neg e, hk]
   exact ⟨Classical.not_not.1 e, rfl⟩
  ·cases h
end
set_option maxRecDepth 100000
set_option maxHeartbeats 1000000
def rootNd : Nd := ⟨2, 493, 0, ⟨#[]⟩, []⟩
def newD : Nds := [Nd.gone, rootNd]
theorem nd_new (i : Int) : nd newD i = if i = 1 then rootNd else Nd.gone := by
 unfold nd newD
 by_cases h0 : 0 <= i
 ·rw [if_pos h0]
  by_cases h1 : i = 1
  ·subst h1; rfl
  ·rw [if_neg h1]
   by_cases h2 : i = 0
   ·subst h2; rfl
   ·rw [List.getElem?_eq_none (by simp; omega)]; rfl
 ·rw [if_neg h0, if_neg (by omega)]
theorem has_new (i : Int) : has newD i ↔ i = 1 := by
 unfold has
 rw [nd_new]
 split
 ·next e => exact ⟨fun _ => e, fun _ => by decide⟩
 ·next e => exact ⟨fun h => absurd rfl h, fun h => absurd h e⟩
theorem cnt_new (i : Int) : cnt newD i = 0 := by simp [cnt, sumBy, newD, namesOf, Nd.gone, rootNd]
theorem used_new : used newD = 0 := by decide
theorem mass_new : mass newD = 2 := by decide
theorem count_new : count newD = 1 := by decide
theorem ents_new (i : Int) : (nd newD i).ents = [] := by rw [nd_new]; split <;> rfl
theorem noGarb_new : NoGarb newD := fun i h => by
 have := (has_new i).1 h.1
 subst this
 exact DInv.not_garb_root h
theorem inv_new : DInv newD := by
 refine ⟨by decide, by rw [nd_new]; rfl, by rw [nd_new]; rfl, fun i => ?_, fun i e h => ?_, fun i h => ?_, fun i => ⟨i, fun j hj => ?_⟩⟩
 ·rw [nd_new]
  split
  ·exact ⟨by decide, by decide, (fun h => by cases h), by decide, by decide, by decide, by decide, fun _ => rfl, fun _ => rfl, List.Pairwise.nil, (fun _ h => by cases h)⟩
  ·exact NdOk.none
 ·rw [ents_new] at h; cases h
 ·have := cnt_new i
  unfold links
  split <;> omega
 ·obtain ⟨_, e, h, _⟩ := hj
  rw [ents_new] at h; cases h
theorem disk_new {w : World} {B A G : Nat} {room : Int} (h0 : w.cell? ⟨A, 0, none⟩ = some (.map (some B))) (h1 : w.cell? ⟨A, 1, none⟩ = some (.int .i64 2)) (h2 : w.cell? ⟨A, 2, none⟩ = some (.int .i64 0)) (h3 : w.cell? ⟨A, 3, none⟩ = some (.int .i64 room))
 (hfz : ∀ j, w.frozen? ⟨A, j, none⟩ = false) (hm : IMap w B [(1, .pointer (some ⟨G, 0, none⟩))]) (hN : NodeAt w G (.slice none 0 0) (.slice none 0 0) rootNd 1 1) (hAB : A ≠ B) (hAG : A ≠ G) (hBG : B ≠ G) (hr : 0 <= room) (hr2 : room <= 9223372036854775807) :
 ∃ R, IsDisk R w A newD room ∧ ∀ x, x ≠ A -> x ≠ B -> x ≠ G -> R.tag x = .none := by
 refine ⟨⟨B, [(1, .pointer (some ⟨G, 0, none⟩))], fun _ => G, fun _ => .slice none 0 0, fun _ => .slice none 0 0, fun x => if x = A then .disk else if x = B then .map else if x = G then .node 1 else .none⟩,
  ⟨⟨fun _ => 1, fun _ => 1, ⟨h0, h1, h2, h3, hfz, if_pos rfl, ?_, hm, fun i => ?_, count_new.symm, fun i hi => ?_, (fun i hi x hx => by simp [Value.ownBlock] at hx), (fun i hi x hx => by simp [Value.ownBlock] at hx), fun i hi => ?_, fun x hx => ?_⟩, inv_new, fun i hi => ?_, fun i hi => absurd hi (by unfold zp; omega),
    fun i hi => ⟨fun j hj => ?_, fun _ => rfl, fun h => by cases h⟩, by unfold smallD; rw [mass_new]; decide, fun _ _ => by decide⟩, noGarb_new, by rw [used_new]; exact hr, hr2⟩, fun x x1 x2 x3 => ?_⟩
 ·show (if B = A then _ else if B = B then _ else _) = _
  rw [if_neg (fun e => hAB e.symm), if_pos rfl]
 ·simp only [has_new, kvGet, List.find?_cons, List.find?_nil]
  by_cases e : i = 1
  ·subst e; rfl
  ·have : ¬ (1 : Int) = i := fun h => e h.symm
   simp [e, this]
 ·have := (has_new i).1 hi
  subst this
  show (if G = A then _ else if G = B then _ else if G = G then _ else _) = _
  rw [if_neg (fun e => hAG e.symm), if_neg (fun e => hBG e.symm), if_pos rfl]
 ·have := (has_new i).1 hi
  subst this
  rw [nd_new, if_pos rfl]
  exact hN
 ·show (if x = A then _ else if x = B then _ else if x = G then _ else _) = _
  have e1 := lt_of_cell h0
  have e2 := hm.lt
  have e3 := hN.lt
  simp only at e1
  rw [if_neg (by omega), if_neg (by omega), if_neg (by omega)]
 ·have := (has_new i).1 hi
  subst this
  have := cnt_new 1
  unfold links zp
  rw [this]; rfl
 ·obtain ⟨_, e, h, _⟩ := hj
  rw [ents_new] at h; cases h
 ·show (if x = A then _ else if x = B then _ else if x = G then _ else _) = _
  rw [if_neg x1, if_neg x2, if_neg x3]
structure Here (W : World) (R : RD) (w : World) (a : Nat) (d : Nds) (room : Int) : Prop where
 disk : IsDisk R w a d room
 keeps : Keeps NoB W w
 tag : ∀ x, x < W.heap.size -> R.tag x = .none
def HereTo (W w : World) (a : Nat) (d : Nds) (room : Int) : Prop := ∃ R, Here W R w a d room
theorem Here.to {W : World} {R : RD} {w w' : World} {a : Nat} {d d' : Nds} {room : Int} (h : Here W R w a d room) (t : DiskTo R w a d' room w') : HereTo W w' a d' room := by
 obtain ⟨R', h1, h2⟩ := t
 have hs := h.keeps.size
 refine ⟨R', h1, h.keeps.step h2.keeps (fun g hg => ?_), fun x hx => by rw [h2.same x (by omega)]; exact h.tag x hx⟩
 by_cases hl : g < W.heap.size
 ·exact absurd (h.tag g hl) hg
 ·exact .inr (by omega)
theorem Here.on {W : World} {R : RD} {w w' : World} {a : Nat} {d : Nds} {room : Int} (h : Here W R w a d room) (k : Keeps NoB w w') : Here W R w' a d room := ⟨h.disk.keepN k, h.keeps.trans k, h.tag⟩
theorem HereTo.on {W w w' : World} {a : Nat} {d : Nds} {room : Int} (h : HereTo W w a d room) (k : Keeps NoB w w') : HereTo W w' a d room := by
 obtain ⟨R, h⟩ := h
 exact ⟨R, h.on k⟩
theorem HereTo.keeps {W w : World} {a : Nat} {d : Nds} {room : Int} (h : HereTo W w a d room) : Keeps NoB W w := by
 obtain ⟨R, h⟩ := h
 exact h.keeps
theorem IsDisk.top {R : RD} {w : World} {a : Nat} {d : Nds} {room : Int} (h : IsDisk R w a d room) : ∀ x, R.F x -> x < w.heap.size := fun x hx => by
 obtain ⟨⟨lk, up, hC⟩, _, _, _⟩ := h
 by_cases hl : x < w.heap.size
 ·exact hl
 ·exact absurd (hC.rep.top x (by omega)) hx
theorem Here.call {W : World} {R : RD} {w wx w' : World} {a : Nat} {d d' : Nds} {room : Int} (h : Here W R w a d room) (k : Keeps NoB w wx) (t : DiskTo R wx a d' room w') :
 HereTo W w' a d' room ∧ Keeps (fun g => g < w.heap.size) wx w' := by
 refine ⟨(h.on k).to t, ?_⟩
 obtain ⟨R', _, h2⟩ := t
 exact h2.keeps.mono (fun x _ hx => h.disk.top x hx)
theorem new_end {w w5 : World} {room : Int} (hr : 0 <= room) (hr2 : room <= 9223372036854775807) (T1 T2 : TypeId) {G : Nat} (hG : G = w.heap.size + 2) (hm5 : IMap w5 w.heap.size [(1, .pointer (some ⟨G, 0, none⟩))])
 (hk5 : Keeps (fun g => g = w.heap.size) (((w.alloc (.map #[] 0)).alloc (.cells #[.map (some w.heap.size), .int .i64 2, .int .i64 0, .int .i64 room] T1)).alloc (.cells #[.int .i64 2, .int .i64 493, .int .i64 1, .int .i64 0, .slice none 0 0, .slice none 0 0, .int .i64 1] T2)) w5) :
 HereTo w w5 (w.heap.size + 1) newD room := by
 subst hG
 have s1 : (w.alloc (.map #[] 0)).heap.size = w.heap.size + 1 := by simp
 have s2 : ((w.alloc (.map #[] 0)).alloc (.cells #[.map (some w.heap.size), .int .i64 2, .int .i64 0, .int .i64 room] T1)).heap.size = w.heap.size + 2 := by simp
 have n1 := heap_alloc_new (w.alloc (.map #[] 0)) (.cells #[.map (some w.heap.size), .int .i64 2, .int .i64 0, .int .i64 room] T1)
 have n2 := heap_alloc_new ((w.alloc (.map #[] 0)).alloc (.cells #[.map (some w.heap.size), .int .i64 2, .int .i64 0, .int .i64 room] T1)) (.cells #[.int .i64 2, .int .i64 493, .int .i64 1, .int .i64 0, .slice none 0 0, .slice none 0 0, .int .i64 1] T2)
 rw [s1] at n1
 rw [s2] at n2
 have n1' := (Below.heap_alloc ((w.alloc (.map #[] 0)).alloc (.cells #[.map (some w.heap.size), .int .i64 2, .int .i64 0, .int .i64 room] T1)) (.cells #[.int .i64 2, .int .i64 493, .int .i64 1, .int .i64 0, .slice none 0 0, .slice none 0 0, .int .i64 1] T2) (w.heap.size + 1) (by omega)).trans n1
 have k0 : Keeps NoB w (((w.alloc (.map #[] 0)).alloc (.cells #[.map (some w.heap.size), .int .i64 2, .int .i64 0, .int .i64 room] T1)).alloc (.cells #[.int .i64 2, .int .i64 493, .int .i64 1, .int .i64 0, .slice none 0 0, .slice none 0 0, .int .i64 1] T2)) := (((Keeps.refl NoB w).alloc _).alloc _).alloc _
 have s3 : (((w.alloc (.map #[] 0)).alloc (.cells #[.map (some w.heap.size), .int .i64 2, .int .i64 0, .int .i64 room] T1)).alloc (.cells #[.int .i64 2, .int .i64 493, .int .i64 1, .int .i64 0, .slice none 0 0, .slice none 0 0, .int .i64 1] T2)).heap.size = w.heap.size + 3 := by simp
 have b1 := (hk5.block (w.heap.size + 1) (by omega) (by omega)).trans n1'
 have b2 := (hk5.block (w.heap.size + 2) (by omega) (by omega)).trans n2
 have hA : ∀ j v, (#[.map (some w.heap.size), .int .i64 2, .int .i64 0, .int .i64 room] : Array Value)[j]? = some v -> w5.cell? ⟨w.heap.size + 1, j, none⟩ = some v := fun j v hv => by
  rw [cell_of_row w5 _ j _ T1 (0, 0) b1]; exact hv
 have hB : ∀ j v, (#[.int .i64 2, .int .i64 493, .int .i64 1, .int .i64 0, .slice none 0 0, .slice none 0 0, .int .i64 1] : Array Value)[j]? = some v -> w5.cell? ⟨w.heap.size + 2, j, none⟩ = some v := fun j v hv => by
  rw [cell_of_row w5 _ j _ T2 (0, 0) b2]; exact hv
 have hN : NodeAt w5 (w.heap.size + 2) (.slice none 0 0) (.slice none 0 0) rootNd 1 1 :=
  ⟨hB 0 _ rfl, hB 1 _ rfl, hB 2 _ rfl, hB 3 _ rfl, hB 4 _ rfl, OwnB.nil _ _, ⟨hB 5 _ rfl, frozen_of_row w5 _ 5 _ T2 b2, rfl, Own.nil _ _ _ _, List.Pairwise.nil, (fun _ h => by cases h), (fun h => by simp [Value.ownBlock] at h)⟩, hB 6 _ rfl, fun j => frozen_of_row w5 _ j _ T2 b2⟩
 obtain ⟨R, hD, hT⟩ := disk_new (A := w.heap.size + 1) (hA 0 _ rfl) (hA 1 _ rfl) (hA 2 _ rfl) (hA 3 _ rfl) (fun j => frozen_of_row w5 _ j _ T1 b1) hm5 hN (by omega) (by omega) (by omega) hr hr2
 exact ⟨R, hD, k0.step hk5 (fun g hg => .inr (by omega)), fun x hx => hT x (by omega) (by omega) (by omega)⟩
theorem new_any (w : World) (room : Int) (hr2 : room <= 9223372036854775807) :
 Calls Tryz.prog 19 #[.int .i64 room] w fun e w' => if room < 0 then e = .returned (.tuple #[.pointer none, .int .i64 10]) ∧ w = w' else
  ∃ a, e = .returned (.tuple #[.pointer (some ⟨a, 0, none⟩), .int .i64 0]) ∧ HereTo w w' a newD room := by
 by_cases hr : room < 0
 ·simp only [if_pos hr]
  go_enter Tryz.func19, Tryz.ntmps19
  go_wp2
  go_ret2
  exact ⟨rfl, rfl⟩
 ·simp only [if_neg hr]
  have hmk : ∀ wx : World, (Instr.makeMap 78 none).run Tryz.prog wx = .ok (.map (some wx.heap.size)) (wx.alloc (.map #[] 0)) := fun _ => rfl
  go_enter Tryz.func19, Tryz.ntmps19
  go_wp2_with (at_mapUpdate; refine wpl_mapUpdate rfl (.tmp 14) (.const (.int .i64 1)) (.tmp 16) _ rfl Tryz.underlying78 Tryz.underlying3 rfl (((IMap.made w).keep ((Keeps.refl NoB _).alloc _) (fun h => h)).keep ((Keeps.refl NoB _).alloc _) (fun h => h)) rfl rfl rfl ?_; intro w5 hm5 hk5)
  go_ret2
  exact ⟨_, rfl, new_end hr hr2 _ _ (by simp) hm5 hk5⟩
end Go.Proofs.YtimidmogcbapnaaGreatDoor
