/-
  Contracts of package disk, the fourth part: free.
-/
import Derived.Test.YtimidmogcbapnaaGreatDoorG03
import Derived.Deep.RegionWith
import Derived.Deep.CutRange

set_option linter.unusedSimpArgs false
set_option linter.unusedVariables false
namespace Go.Proofs.YtimidmogcbapnaaGreatDoor
open Go.RowKit
set_option maxRecDepth 100000
set_option maxHeartbeats 2000000
theorem free_of_less (n : Nat) (hless : ∀ m, m < n -> LessOk m) : FreeOk n := by
 intro R w a d room lk up pend i hn h hi hpg
 have hl := h.rep.l
 have hlook := h.rep.look i
 unfold nodeV at hlook
 rw [if_pos hi] at hlook
 have hnode := h.rep.node i hi
 have hk := hnode.links
 have hh := hnode.holds
 have hc := h.cnt i hi
 have hh0 := (h.inv.node i).holds
 have H := Lib.hid h
 by_cases hz : 0 < lk i
 ·have hno : ∀ j, ¬ PG d pend j := fun j hj => by
   have := hpg j hj; subst this
   obtain ⟨_, h2, h3, _⟩ := hj
   omega
  have HN := Lib.hid hno
  clear hno h hc hpg hn hless hnode
  go_enter Tryz.func56, Tryz.ntmps56
  go_wp2
  go_end0
  exact ⟨rfl, R, d, lk, up, H.out, HN.out, .refl _, Turn.refl _ _⟩
 ·have hL : lk i = 0 := by omega
  rw [hL] at hk
  by_cases hy : 0 < (nd d i).holds
  ·have hno : ∀ j, ¬ PG d pend j := fun j hj => by
    have := hpg j hj; subst this
    obtain ⟨_, h2, h3, h4⟩ := hj
    omega
   have HN := Lib.hid hno
   clear hno h hc hpg hn hless hnode hz hL
   generalize (nd d i).holds = x at *
   go_enter Tryz.func56, Tryz.ntmps56
   go_wp2
   go_end0
   exact ⟨rfl, R, d, lk, up, H.out, HN.out, .refl _, Turn.refl _ _⟩
  ·have hY : (nd d i).holds = 0 := by omega
   rw [hY] at hh
   have hg : PG d pend i := ⟨hi, by omega, by omega, hY⟩
   have hu := h.rep.used
   have hfu := h.rep.fz 2
   obtain ⟨p, cap, hv⟩ := hnode.own.form
   have hd4 := hnode.data
   rw [hv] at hd4
   have hlen := nd_ents_len h.small i
   have hsize := fun wx (hx : Keeps NoB w wx) => size_any (fun _ => True) wx ⟨R.g i, 5, none⟩ (R.ev i) (nd d i).ents ((hnode.dir.keep hx (fun h => h) (fun _ _ h => h)).any (fun _ _ => trivial)) (by omega)
   have hroom : room1 (nd d i) <= used d := sumBy_ge room1 (has_range hi).1 (has_range hi).2
   have hul := used_le h.inv
   have hsm := h.small
   unfold smallD at hsm
   unfold room1 at hroom
   have e1 : IntKind.i64.wrap (((nd d i).data.size : Int) + (entSize (nd d i).ents : Int)) = ((nd d i).data.size : Int) + (entSize (nd d i).ents : Int) := by rw [IntKind.wrap_i64]; omega
   have e2 : IntKind.i64.wrap ((used d : Int) - (((nd d i).data.size : Int) + (entSize (nd d i).ents : Int))) = (used d : Int) - (((nd d i).data.size : Int) + (entSize (nd d i).ents : Int)) := by rw [IntKind.wrap_i64]; omega
   have HU := Lib.hid (fun wx (hx : Keeps NoB w wx) => (⟨(hx.cell (p := ⟨a, 2, none⟩) h.rep.alt (fun h => h)).trans hu, (hx.frozen (p := ⟨a, 2, none⟩) h.rep.alt (fun h => h)).trans hfu, (hx.cell (p := ⟨R.g i, 4, none⟩) hnode.lt (fun h => h)).trans hd4⟩ : wx.cell? ⟨a, 2, none⟩ = some (.int .i64 (used d)) ∧ wx.frozen? ⟨a, 2, none⟩ = false ∧ wx.cell? ⟨R.g i, 4, none⟩ = some (.slice p (nd d i).data.size cap)))
   have HS := Lib.hid hsize
   have HN := Lib.hid hnode
   have HG := Lib.hid hpg
   have Hless := Lib.hid hless
   have hV := Lib.hid hv
   clear h hpg hc hnode hsize hz hL hy hY hroom hul hsm hless hv
   have Hend : Hid (∀ w0, Keeps NoB w w0 -> ∃ wA, w0.setCell ⟨a, 2, none⟩ (.int .i64 ((used d : Int) - (((nd d i).data.size : Int) + (entSize (nd d i).ents : Int)))) = wA ∧ Rep R wA a d room (used (kill d i)) lk up ∧ Keeps R.F w wA) :=
    Lib.hid fun w0 hk0 => ⟨_, rfl, by
     have h1 := (H.out.rep.keepN hk0).setUsed ((used d : Int) - (((nd d i).data.size : Int) + (entSize (nd d i).ents : Int)))
     have h2 := used_kill hi
     unfold room1 at h2
     have e : (used d : Int) - (((nd d i).data.size : Int) + (entSize (nd d i).ents : Int)) = (used (kill d i) : Int) := by omega
     rw [e] at h1 ⊢
     exact h1,
     (hk0.of_none).setCell (.inl H.out.rep.fA) _⟩
   generalize hD : (nd d i).data.size = ds at *
   generalize hE : entSize (nd d i).ents = es at *
   generalize hUs : used d = u at *
   have hD := Lib.hid hD
   have hE := Lib.hid hE
   have hUs := Lib.hid hUs
   go_enter Tryz.func56, Tryz.ntmps56
   go_upto_region 2 with fail
   go_cut [6] from 25 to 41 (fun _ wx => ∃ w0, Keeps NoB w w0 ∧ wx = w0.setCell ⟨a, 2, none⟩ (.int .i64 ((u : Int) - ((ds : Int) + (es : Int)))))
   case first =>
    go_region_with (go_at_call 91; refine (HS.out _ ?_).mono ?_; (first | exact Keeps.refl _ _ | exact (Keeps.refl _ _).drew | exact ((Keeps.refl _ _).drew).drew); rintro e w1 ⟨rfl, hk1⟩; have hk2 : Keeps NoB w w1 := ((Keeps.refl _ _).drew).trans hk1; obtain ⟨hu1, hf1, hd1⟩ := HU.out w1 hk2)
    all_goals (go_wp2_with fail; go_meet; exact ⟨_, by first | exact hk2 | exact hk2.drew, rfl⟩)
   case rest =>
    obtain ⟨w0, hk0, rfl⟩ := hcut
    obtain ⟨wA, hA1, hA2, hA3⟩ := Hend.out w0 hk0
    rw [hA1]
    have hlA := hA2.l
    have hmA := hA2.map
    have HA2 := Lib.hid hA2
    have HA3 := Lib.hid hA3
    clear hA1 hA2 hA3 HU HS hu hfu hd4 hl hlook hk hh hh0 hk0 Hend e1 e2 hD hE hUs HN hV w0
    go_wp2_with (first | (at_delete; refine wpl_delete rfl (.tmp 45) (.tmp 46) _ _ rfl Tryz.underlying78 Tryz.underlying3 rfl hmA rfl ?_; intro w2 hm2 hk2) | fail)
    have hR2 := HA2.out.kill hi hk2 hm2
    have hC2 := H.out.kill hg hR2
    have hN2 : ∀ j, ¬ PG (kill d i) (pendL pend (nd d i).ents) j := fun j hj => by
     have := PG.of_kill (pend := pend) hi hj
     exact this.2 (HG.out j this.1)
    have hgB : ¬ R.g i = R.b := fun e => by have h1 := HA2.out.tagN i hi; rw [e, HA2.out.tagB] at h1; cases h1
    have heB : ∀ x, (R.ev i).ownBlock = some x -> ¬ x = R.b := fun x hx e => by have h1 := HA2.out.tagE i hi x hx; rw [e, HA2.out.tagB] at h1; cases h1
    have hdir := ((HA2.out.node i hi).dir.keep hk2 hgB heB).any (G := fun _ => True) (fun _ _ => trivial)
    have hlist := list_any (fun _ => True) w2 ⟨R.g i, 5, none⟩ (R.ev i) (nd d i).ents hdir (by omega)
    have hT2 : Turn R w { R with kv := kvDel R.kv i } w2 := ⟨HA3.out.step hk2 (fun x hx => .inl (by subst hx; exact HA2.out.fB)), fun _ _ => rfl⟩
    have HC2 := Lib.hid hC2
    have HN2 := Lib.hid hN2
    have HT2 := Lib.hid hT2
    have HL := Lib.hid hlist
    clear hR2 hC2 hN2 hgB heB hdir hlist hT2 hlA hmA hm2 hk2 HA2 HA3
    go_wp2_with (go_at_call 92; refine HL.out.mono ?_; rintro e w3 ⟨v, rfl, ho, hk3⟩; obtain ⟨p', c', rfl, hs⟩ := ho.sl)
    have hs0 : SlAt encEnt (fun x => R.tag x = .none) w3 p' c' (nd d i).ents := hs.keepS (Keeps.refl NoB w3) (fun _ _ _ h => h) (fun g hg _ => HC2.out.rep.top g hg)
    have hC3 := HC2.out.keep hk3 (fun _ _ h => h.elim)
    have hT3 := HT2.out.trans (Turn.ofN (R := { R with kv := kvDel R.kv i }) hk3)
    have HC3 := Lib.hid hC3
    have HT3 := Lib.hid hT3
    have HS0 := Lib.hid hs0
    have hcap := hs.cap
    clear hC3 hT3 hs0 ho hs hk3 HC2 HT2 HL
    go_loopw [6, 52] (fun _ x wr => ∃ (k : Nat) (R' : RD) (d' : Nds) (lk' up' : Int -> Int), k <= (nd d i).ents.length ∧ x = .int .i64 k ∧ Casc R' wr a d' room lk' up' (pendL pend ((nd d i).ents.drop k)) ∧
     (∀ j, ¬ PG d' (pendL pend ((nd d i).ents.drop k)) j) ∧ Kills (kill d i) d' ∧ Turn R w R' wr ∧ SlAt encEnt (fun x => R'.tag x = .none) wr p' c' (nd d i).ents) (fun _ x _ => (nd d i).ents.length - (intOf x).toNat)
    case atStart => exact ⟨0, _, _, _, _, Nat.zero_le _, rfl, HC3.out, HN2.out, .refl _, HT3.out, HS0.out⟩
    case round =>
     obtain ⟨k, R', d', lk', up', hk, rfl, hC, hN, hK, hT, hS⟩ := hrel
     have HC := Lib.hid hC
     have HN := Lib.hid hN
     have HK := Lib.hid hK
     have HT := Lib.hid hT
     have HSl := Lib.hid hS
     clear hC hN hK hT
     by_cases hlt : k < (nd d i).ents.length
     ·obtain ⟨x, hx⟩ : ∃ x, (nd d i).ents[k]? = some x := ⟨_, List.getElem?_eq_getElem hlt⟩
      obtain ⟨g, off, rfl, hSg, hg, c0, c1⟩ := hS.ent hx
      have hdrop : (nd d i).ents.drop k = x :: (nd d i).ents.drop (k + 1) := by
       obtain ⟨hl, he⟩ := List.getElem?_eq_some_iff.1 hx
       rw [<- he]; exact List.drop_eq_getElem_cons hl
      have HD := Lib.hid hdrop
      have HX := Lib.hid hx
      clear hdrop hx hS
      have hcnt : count d' < n := by
       have := HK.out.count_le
       have := count_kill hi
       omega
      have hl := fun (o : Obj) => Hless.out _ hcnt R' _ a d' room lk' up' (pendL pend ((nd d i).ents.drop k)) x.2 rfl (HC.out.keep ((Keeps.refl NoB _).alloc o) (fun _ _ h => h.elim)) (by
       rw [HD.out]; unfold pendL; rw [List.countP_cons]; simp only [decide_true, if_true]; omega) HN.out
      have HL := Lib.hid hl
      clear hl hcnt
      go_wp2_with (go_at_call 93; go_loud (refine (HL.out _).mono ?_); rintro e w5 ⟨rfl, R'', d'', lk'', up'', h1, h2, h3, h4⟩)
      go_roundw
      case rel =>
       rw [HD.out, decAt_pendL] at h1 h2
       refine ⟨k + 1, R'', d'', lk'', up'', by omega, by go_num, h1, h2, HK.out.trans h3, HT.out.trans ((Turn.ofN ((Keeps.refl NoB _).alloc _)).trans h4), ?_⟩
       exact (HSl.out.keepN ((Keeps.refl NoB _).alloc _)).keepS h4.keeps (fun g hg _ hf => hf hg) (fun g hg hlt => (h4.same g hlt).trans hg)
      case measure => simp [intOf]; omega
     ·have hnil : (nd d i).ents.drop k = [] := List.drop_of_length_le (by omega)
      have hC := HC.out
      have hN := HN.out
      rw [hnil, pendL_nil] at hC hN
      have HC' := Lib.hid hC
      have HN' := Lib.hid hN
      clear hC hN hnil HC HN
      go_wp2
      go_end0
      exact ⟨rfl, R', d', lk', up', HC'.out, HN'.out, .step i hg.garb HK.out, HT.out⟩
theorem free_ok (n : Nat) : FreeOk n := by
 induction n using Nat.strongRecOn with
 | ind n ih => exact free_of_less n fun m hm => less_of_free m (ih m hm)
theorem less_ok (n : Nat) : LessOk n := less_of_free n (free_ok n)
end Go.Proofs.YtimidmogcbapnaaGreatDoor
