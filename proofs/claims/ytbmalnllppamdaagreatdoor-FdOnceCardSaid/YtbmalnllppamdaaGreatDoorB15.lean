/-
  Contracts of the reference for layer 4, the fifth part: free.
-/
import Derived.Test.YtbmalnllppamdaaGreatDoorB14
import Derived.Test.YtbmalnllppamdaaGreatDoorB08

set_option linter.unusedSimpArgs false
set_option linter.unusedVariables false

namespace Go.Proofs.YtbmalnllppamdaaGreatDoor
open Go.RowKit
set_option maxRecDepth 100000
set_option maxHeartbeats 1000000

/-- What free leaves. -/
def RFreeEnd (S : Nat → Prop) (w : World) (d : Nds) (room id : Int) (e : Ending) (w' : World) : Prop :=
  ∃ p' c' d', e = .returned (refV p' c' d' room) ∧ RefAt S w' p' c' d' ∧ Keeps NoB w w' ∧ Kills d d' ∧ ¬ Garb d' id ∧ ∀ j, Garb d' j → Garb d j

def RFree (n : Nat) : Prop := ∀ S w p c d room id, count d = n → RefAt S w p c d → (∀ g, w.heap.size ≤ g → S g) → DInv d → smallD d → 0 ≤ id → id.toNat < d.length →
  Calls Tryz.prog 202 #[refV p c d room, .int .i64 id] w (RFreeEnd S w d room id)

theorem Kills.garb {d d' : Nds} {i : Int} (h : Garb d i) (k : Kills d d') (hh : has d' i) : Garb d' i := by
  induction k with
  | refl => exact h
  | step j hj _ ih =>
    by_cases e : i = j
    · subst e
      have := (Kills.was ‹_› hh).1
      exact absurd rfl ((has_kill hj.1).1 this).1
    · exact ih (h.other hj.1 e) hh

theorem garb_kill {d : Nds} {i j : Int} (hi : has d i) (h : Garb (kill d i) j) : Garb d j ∨ ∃ e ∈ (nd d i).ents, e.2 = j := by
  obtain ⟨h1, h2, h3⟩ := h
  obtain ⟨h4, h5⟩ := (has_kill hi).1 h1
  rw [nd_kill hi, if_neg h4] at h3
  by_cases hn : namesOf j (nd d i) = 0
  · have := links_kill hi j
    exact .inl ⟨h5, by omega, h3⟩
  · exact .inr (namesOf_pos.1 (by omega))

theorem smallD_kills {d d' : Nds} (k : Kills d d') (h : smallD d) : smallD d' := by
  have := k.mass
  unfold smallD at *
  omega

/-- What the first step of free comes to: k is gone. -/
structure RFirst (d d1 : Nds) (k : Nat) (es : List Ent) : Prop where
  kills : Kills d d1
  garb : ∀ j, Garb d1 j → Garb d j ∨ ∃ e ∈ es, e.2 = j
  gone : ¬ has d1 k
  less : es ≠ [] → count d1 < count d
  inv : DInv d1
  small : smallD d1
  range : ∀ e ∈ es, 0 ≤ e.2 ∧ e.2.toNat < d.length

theorem rfree_facts {d : Nds} {k : Nat} (hI : DInv d) (hs : smallD d) (h1 : links d (k : Int) = 0) (h2 : (nd d (k : Int)).holds = 0) : RFirst d (kill d (k : Int)) k (nd d (k : Int)).ents := by
  have hrange : ∀ e ∈ (nd d (k : Int)).ents, 0 ≤ e.2 ∧ e.2.toNat < d.length := fun e he => has_range (hI.tgt k e he).1
  by_cases hi : has d (k : Int)
  · have hg : Garb d (k : Int) := ⟨hi, h1, h2⟩
    refine ⟨.one hg, fun j hj => garb_kill hi hj, fun h => ((has_kill hi).1 h).1 rfl, fun _ => by have := count_kill hi; omega, hI.kill hg, smallD_kills (.one hg) hs, hrange⟩
  · have hgone := (hI.node k).gone (not_has hi)
    have he : kill d (k : Int) = d := by
      refine Nds.ext (kill_length _ _) fun j => ?_
      by_cases hk : k < d.length
      · unfold kill
        rw [nd_upd (by omega) (by omega)]
        split
        · next e => rw [e, hgone]
        · rfl
      · unfold kill upd
        rw [if_pos (by omega), List.set_eq_of_length_le (by omega)]
    rw [he]
    refine ⟨.refl d, fun j hj => .inl hj, hi, fun h => ?_, hI, hs, hrange⟩
    rw [hgone] at h
    exact absurd rfl h

theorem r4gone_any {S : Nat → Prop} {w : World} {p : Option Addr} {c : Nat} {d : Nds} {room : Int} (h : RefAt S w p c d) (hS : ∀ g, w.heap.size ≤ g → S g) (k : Nat) (hk : k < d.length) (hl : d.length ≤ 4294967296) :
    Calls Tryz.prog 182 #[refV p c d room, .int .i64 k, .agg #[.int .i64 0, .int .i64 0, .int .i64 0, .string ⟨#[]⟩, .slice none 0 0]] w fun e w' => ∃ v', e = .returned v' ∧ IsRef S w' v' (kill d k) room ∧ Keeps NoB w w' :=
  r4put_any h hS k hk hl Nd.gone none 0 ((Sl.nil encEnt S w).at')

/-- Blocks of S, but for the two variables laid at w. -/
def But2 (S : Nat → Prop) (w : World) : Nat → Prop := fun b => S b ∧ b ≠ w.heap.size ∧ b ≠ w.heap.size + 1

/-- What stands in free's loop: the variables A (a disk) and C (the result), the disk, what is left of it. -/
structure FJ (S : Nat → Prop) (w wr : World) (d d1 : Nds) (room : Int) (es : List Ent) (t : Nat) (p : Option Addr) (c : Nat) (dt : Nds) : Prop where
  A0 : wr.cell? ⟨w.heap.size, 0, none⟩ = some (.slice p d.length c)
  A1 : wr.cell? ⟨w.heap.size, 1, none⟩ = some (.int .i64 room)
  C0 : wr.cell? ⟨w.heap.size + 1, 0, none⟩ = some (.slice none 0 0)
  C1 : wr.cell? ⟨w.heap.size + 1, 1, none⟩ = some (.int .i64 0)
  zA : ∀ j, wr.frozen? ⟨w.heap.size, j, none⟩ = false
  zC : ∀ j, wr.frozen? ⟨w.heap.size + 1, j, none⟩ = false
  ref : RefAt (But2 S w) wr p c dt
  kills : Kills d1 dt
  garb : ∀ j, Garb dt j → Garb d j ∨ ∃ e ∈ es.drop t, e.2 = j
  keeps : Keeps NoB w wr

theorem fj_set {S : Nat → Prop} {w wr : World} {d d1 : Nds} {room : Int} {es : List Ent} {t : Nat} {p : Option Addr} {c : Nat} {dt : Nds} {v0 v1 : Value}
    (A0 : wr.cell? ⟨w.heap.size, 0, none⟩ = some v0) (A1 : wr.cell? ⟨w.heap.size, 1, none⟩ = some v1) (C0 : wr.cell? ⟨w.heap.size + 1, 0, none⟩ = some (.slice none 0 0)) (C1 : wr.cell? ⟨w.heap.size + 1, 1, none⟩ = some (.int .i64 0))
    (zA : ∀ j, wr.frozen? ⟨w.heap.size, j, none⟩ = false) (zC : ∀ j, wr.frozen? ⟨w.heap.size + 1, j, none⟩ = false) (ref : RefAt (But2 S w) wr p c dt) (kills : Kills d1 dt) (garb : ∀ j, Garb dt j → Garb d j ∨ ∃ e ∈ es.drop t, e.2 = j) (keeps : Keeps NoB w wr) :
    FJ S w ((wr.setCell ⟨w.heap.size, 0, none⟩ (.slice p d.length c)).setCell ⟨w.heap.size, 1, none⟩ (.int .i64 room)) d d1 room es t p c dt := by
  have kk : Keeps (fun b => b = w.heap.size) wr ((wr.setCell ⟨w.heap.size, 0, none⟩ (.slice p d.length c)).setCell ⟨w.heap.size, 1, none⟩ (.int .i64 room)) := (keeps_set wr ⟨w.heap.size, 0, none⟩ _).trans (keeps_set _ ⟨w.heap.size, 1, none⟩ _)
  have hC := lt_of_cell C0
  have b0 := cell_set (k := 1) (u := .int .i64 room) (cell_set (k := 0) (u := .slice p d.length c) A0)
  have b1 := cell_set (k := 1) (u := .int .i64 room) (cell_set (k := 0) (u := .slice p d.length c) A1)
  refine ⟨b0, b1, (kk.cell (p := ⟨w.heap.size + 1, 0, none⟩) hC (by simp)).trans C0, (kk.cell (p := ⟨w.heap.size + 1, 1, none⟩) hC (by simp)).trans C1, fun j => ?_, fun j => (kk.frozen (p := ⟨w.heap.size + 1, j, none⟩) hC (by simp)).trans (zC j),
    ref.keepS kk (fun g hg _ e => hg.2.1 e) (fun g hg _ => hg), kills, garb, keeps.step kk (fun g hg => .inr (by omega))⟩
  exact (frozen_set _ _ _ _).trans ((frozen_set _ _ _ _).trans (zA j))

theorem fj_next {S : Nat → Prop} {w wr wx w4 : World} {d d1 : Nds} {room : Int} {es : List Ent} {t : Nat} {p : Option Addr} {c : Nat} {dt : Nds} (J : FJ S w wr d d1 room es t p c dt) (hkx : Keeps NoB wr wx) (hk4 : Keeps NoB wx w4) :
    w4.cell? ⟨w.heap.size, 0, none⟩ = some (.slice p d.length c) ∧ w4.cell? ⟨w.heap.size, 1, none⟩ = some (.int .i64 room) ∧ w4.cell? ⟨w.heap.size + 1, 0, none⟩ = some (.slice none 0 0) ∧ w4.cell? ⟨w.heap.size + 1, 1, none⟩ = some (.int .i64 0) ∧
    (∀ j, w4.frozen? ⟨w.heap.size, j, none⟩ = false) ∧ (∀ j, w4.frozen? ⟨w.heap.size + 1, j, none⟩ = false) := by
  have k := hkx.trans hk4
  have l1 := lt_of_cell J.A0
  have l2 := lt_of_cell J.C0
  exact ⟨(k.cell (p := ⟨w.heap.size, 0, none⟩) l1 (fun h => h)).trans J.A0, (k.cell (p := ⟨w.heap.size, 1, none⟩) l1 (fun h => h)).trans J.A1, (k.cell (p := ⟨w.heap.size + 1, 0, none⟩) l2 (fun h => h)).trans J.C0, (k.cell (p := ⟨w.heap.size + 1, 1, none⟩) l2 (fun h => h)).trans J.C1,
    fun j => (k.frozen (p := ⟨w.heap.size, j, none⟩) l1 (fun h => h)).trans (J.zA j), fun j => (k.frozen (p := ⟨w.heap.size + 1, j, none⟩) l2 (fun h => h)).trans (J.zC j)⟩

/-- The recursive call. -/
theorem rfree_call {n : Nat} (ih : ∀ m, m < n → RFree m) {S : Nat → Prop} {w wr : World} {d : Nds} {k : Nat} {room : Int} {es : List Ent} {t : Nat} {p : Option Addr} {c : Nat} {dt : Nds} {x : Ent} (hn : count d = n) (F : RFirst d (kill d (k : Int)) k es)
    (J : FJ S w wr d (kill d (k : Int)) room es t p c dt) (hS : ∀ g, w.heap.size ≤ g → S g) (hx : es[t]? = some x) (hk : k < d.length) : ∀ wx, Keeps NoB wr wx →
    Calls Tryz.prog 202 #[.agg #[.slice p d.length c, .int .i64 room], .int .i64 x.2] wx fun e w' => ∃ p' c' d', e = .returned (.agg #[.slice p' d.length c', .int .i64 room]) ∧ RefAt (But2 S w) w' p' c' d' ∧ Keeps NoB wx w' ∧ Kills (kill d (k : Int)) d' ∧
      ∀ j, Garb d' j → Garb d j ∨ ∃ e ∈ es.drop (t + 1), e.2 = j := fun wx hkx => by
  have hmem := List.mem_of_getElem? hx
  have hlen : dt.length = d.length := by rw [J.kills.length, kill_length]
  have hne : es ≠ [] := fun e => by subst e; cases hmem
  have hc : count dt < n := by have := J.kills.count_le; have := F.less hne; omega
  have hsz := lt_of_cell J.C0
  have hr := F.range x hmem
  have hcall := ih _ hc (But2 S w) wx p c dt room x.2 rfl (J.ref.keepN hkx) (fun g hg => by
    have := hkx.size
    simp only at hsz
    exact ⟨hS g (by omega), by omega, by omega⟩) (F.inv.kills J.kills) (smallD_kills J.kills F.small) hr.1 (by omega)
  unfold refV at hcall
  rw [hlen] at hcall
  refine hcall.mono ?_
  rintro e w' ⟨p', c', d', he, h1, h2, h3, h4, h5⟩
  refine ⟨p', c', d', ?_, h1, h2, J.kills.trans h3, fun j hj => ?_⟩
  · rw [he]; unfold refV; rw [h3.length, hlen]
  · rcases J.garb j (h5 j hj) with h | ⟨e, h6, h7⟩
    · exact .inl h
    · right
      have hd : es.drop t = x :: es.drop (t + 1) := by
        obtain ⟨hl, he⟩ := List.getElem?_eq_some_iff.1 hx
        rw [← he]; exact List.drop_eq_getElem_cons hl
      rw [hd] at h6
      rcases List.mem_cons.1 h6 with rfl | h6
      · subst h7; exact absurd hj h4
      · exact ⟨e, h6, h7⟩

theorem rfree_step (n : Nat) (ih : ∀ m, m < n → RFree m) : RFree n := by
  intro S w p c d room id hn h hS hI hs h0 hlt
  have hcap := h.cap
  have hmax := h.max
  unfold maxLen at hmax
  have hz := hI.zero
  have h2 := hI.two
  have hal : Keeps NoB w ((w.alloc (.cells #[.slice p d.length c, .int .i64 room] 31)).alloc (.cells #[.slice none 0 0, .int .i64 0] 31)) := ((Keeps.refl _ _).alloc _).alloc _
  have hlk := r4links_any (room := room) (h.keepN hal) hz (by omega) hs id
  obtain ⟨k, rfl⟩ : ∃ k : Nat, id = (k : Int) := ⟨id.toNat, by omega⟩
  have hk : k < d.length := by omega
  obtain ⟨g, off, q, m, rfl, hSg, hrow⟩ := h.rowAt hk
  have HR := Lib.hid (fun (w1 : World) (hk1 : Keeps NoB w w1) => hrow.keepN hk1)
  have hbx := Lib.hid (fun (w1 : World) (hk1 : Keeps NoB ((w.alloc (.cells #[.slice (some ⟨g, off, none⟩) d.length c, .int .i64 room] 31)).alloc (.cells #[.slice none 0 0, .int .i64 0] 31)) w1) => boxes2 hk1)
  have HA := Lib.hid hal
  have Hh := Lib.hid h
  have HI := Lib.hid hI
  have Hsm := Lib.hid hs
  by_cases hg : links d (k : Int) = 0 ∧ (nd d (k : Int)).holds = 0
  case neg =>
    have hend : Hid (∀ w', Keeps NoB w w' → RFreeEnd S w d room k (.returned (refV (some ⟨g, off, none⟩) c d room)) w') := fun w' hk' => ⟨_, _, d, rfl, Hh.out.keepN hk', hk', .refl d, fun hgb => hg ⟨hgb.2.1, hgb.2.2⟩, fun _ h => h⟩
    have hcase : (0 : Int) < (links d (k : Int) : Int) ∨ ((links d (k : Int) : Int) = 0 ∧ 0 < (nd d (k : Int)).holds) := by
      have h1 := (hI.node k).holds
      by_cases h2 : links d (k : Int) = 0
      · exact .inr ⟨by omega, by have : ¬ (nd d (k : Int)).holds = 0 := fun e => hg ⟨h2, e⟩; omega⟩
      · exact .inl (by omega)
    unfold refV at *
    have hlk' := hlk
    clear hlk
    generalize (links d (k : Int) : Int) = lks at *
    have HL := Lib.hid hlk'
    clear hlk' hrow h hI hs hz h2 hn ih hg hal
    rcases hcase with h1 | ⟨rfl, h1⟩
    all_goals
      go_enter Tryz.func202, Tryz.ntmps202
      go_wp2_with (go_at_call 84; refine HL.out.mono ?_; rintro e w1 ⟨rfl, hk1⟩; obtain ⟨a1, a2, z1, z2, z3⟩ := hbx.out w1 hk1; have A0 : w1.cell? ⟨w.heap.size, 0, none⟩ = some (.slice (some ⟨g, off, none⟩) d.length c) := a1 0 _ rfl; have A1 : w1.cell? ⟨w.heap.size, 1, none⟩ = some (.int .i64 room) := a1 1 _ rfl; have C0 : w1.cell? ⟨w.heap.size + 1, 0, none⟩ = some (.slice none 0 0) := a2 0 _ rfl; have C1 : w1.cell? ⟨w.heap.size + 1, 1, none⟩ = some (.int .i64 0) := a2 1 _ rfl; have hkw := HA.out.trans hk1; have hr1 := HR.out w1 hkw; have R2 := hr1.c2; have R4 := hr1.c4; have hgl := hr1.lt; have HKW := Lib.hid hkw; clear a1 a2 hkw hr1 hk1)
      (try simp only [Exit.inBlock, Exit.then])
      refine bodyPost_ret (v := .agg #[.slice (some ⟨g, off, none⟩) d.length c, .int .i64 room]) ?_ rfl ?_
      · rw [results_cell_one rfl]
        go_simp
      · exact hend.out _ ((HKW.out.setCell (p := ⟨w.heap.size + 1, 0, none⟩) (.inr (by simp)) _).setCell (p := ⟨w.heap.size + 1, 1, none⟩) (.inr (by simp)) _)
  case pos =>
    obtain ⟨hg1, hg2⟩ := hg
    rw [hg1] at hlk
    have F := rfree_facts hI hs hg1 hg2
    have hput := Lib.hid (fun (w1 : World) (hk1 : Keeps NoB w w1) (hsz : w.heap.size + 2 ≤ w1.heap.size) => r4gone_any (S := But2 S w) (room := room) (h.keepS hk1 (fun _ _ _ h => h) (fun g hg hl => ⟨hg, by omega, by omega⟩)) (fun g hg => ⟨hS g (by omega), by omega, by omega⟩) k hk (by have := mass_ge d; unfold smallD at hs; omega))
    have HF := Lib.hid F
    have HSl := Lib.hid (fun (w1 : World) (hk1 : Keeps NoB w w1) => (hrow.keepN hk1).sl)
    have hel := nd_ents_len hs (k : Int)
    have hcap2 := hrow.sl.cap
    have hmax2 := hrow.sl.max
    have hhz := hrow.c2
    rw [hg2] at hhz
    have HR2 := Lib.hid (fun (w1 : World) (hk1 : Keeps NoB w w1) => (⟨(hk1.cell (p := ⟨g, _, none⟩) hrow.lt (fun h => h)).trans hhz, (hrow.keepN hk1).c4, (hrow.keepN hk1).lt⟩ : _ ∧ _ ∧ _))
    unfold maxLen at hmax2
    unfold refV at *
    have HL := Lib.hid hlk
    have HS := Lib.hid hS
    have Hih := Lib.hid ih
    have Hn := Lib.hid hn
    have HG := Lib.hid (⟨hg1, hg2⟩ : _ ∧ _)
    clear hlk hrow h hI hs hz h2 hn ih hg1 hg2 hal F hS hhz HR
    generalize hes : (nd d (k : Int)).ents = es at *
    go_enter Tryz.func202, Tryz.ntmps202
    go_wp2_with (first | (go_at_call 84; refine HL.out.mono ?_; rintro e w1 ⟨rfl, hk1⟩; obtain ⟨a1, a2, z1, z2, z3⟩ := hbx.out w1 hk1; have A0 : w1.cell? ⟨w.heap.size, 0, none⟩ = some (.slice (some ⟨g, off, none⟩) d.length c) := a1 0 _ rfl; have A1 : w1.cell? ⟨w.heap.size, 1, none⟩ = some (.int .i64 room) := a1 1 _ rfl; have hkw := HA.out.trans hk1; obtain ⟨R2, R4, hgl⟩ := HR2.out w1 hkw; have HKW := Lib.hid hkw; have HK1 := Lib.hid hk1; clear a1 a2 hkw hk1) | (go_at_call 182; go_loud (refine (hput.out _ HKW.out z3).mono ?_); rintro e w2 ⟨v', rfl, href, hk2⟩; obtain ⟨p1, c1, hv, href⟩ := href; unfold refV at hv; rw [kill_length] at hv; subst hv; obtain ⟨a1, a2, y1, y2, y3⟩ := hbx.out w2 (HK1.out.trans hk2); have A2 : w2.cell? ⟨w.heap.size, 0, none⟩ = some (.slice (some ⟨g, off, none⟩) d.length c) := a1 0 _ rfl; have A3 : w2.cell? ⟨w.heap.size, 1, none⟩ = some (.int .i64 room) := a1 1 _ rfl; have C2 : w2.cell? ⟨w.heap.size + 1, 0, none⟩ = some (.slice none 0 0) := a2 0 _ rfl; have C3 : w2.cell? ⟨w.heap.size + 1, 1, none⟩ = some (.int .i64 0) := a2 1 _ rfl; have HKW2 := Lib.hid (HKW.out.trans hk2); have HRef := Lib.hid href; clear a1 a2 hk2 href))
    have hJ := fj_set (room := room) (es := es) (t := 0) A2 A3 C2 C3 y1 y2 HRef.out (.refl _) HF.out.garb HKW2.out
    have HJ := Lib.hid hJ
    clear hJ A0 A1 A2 A3 C2 C3 y1 y2 y3 z1 z2 z3 R2 R4 hgl HRef HKW2 HKW HK1 hput HL hbx
    generalize (w2.setCell ⟨w.heap.size, 0, none⟩ (.slice p1 d.length c1)).setCell ⟨w.heap.size, 1, none⟩ (.int .i64 room) = w3 at *
    go_loopw [6] (fun x wr => ∃ (t : Nat) (pt : Option Addr) (ct : Nat) (dt : Nds), t ≤ es.length ∧ x = .int .i64 t ∧ FJ S w wr d (kill d k) room es t pt ct dt) (fun x _ => es.length - (intOf x).toNat)
    case atStart => exact ⟨0, _, _, _, Nat.zero_le _, rfl, HJ.out⟩
    case round =>
      rename_i wr
      obtain ⟨t, pt, ct, dt, ht, rfl, hJ⟩ := hrel
      have A0 := hJ.A0
      have A1 := hJ.A1
      have C0 := hJ.C0
      have C1 := hJ.C1
      have zA := hJ.zA
      have zC := hJ.zC
      have HJt := Lib.hid hJ
      have hsz := lt_of_cell C0
      clear hJ HJ
      by_cases hlt : t < es.length
      · obtain ⟨x, hx⟩ : ∃ x, es[t]? = some x := ⟨_, List.getElem?_eq_getElem hlt⟩
        obtain ⟨g2, off2, rfl, _, hg2, e0, e1⟩ := (HSl.out wr HJt.out.keeps).ent hx
        have hcall := rfree_call Hih.out Hn.out HF.out HJt.out HS.out hx (by omega) (room := room)
        have HC := Lib.hid hcall
        clear hcall hx
        unfold refV at HC
        have HJ2 := Lib.hid (fun (wx w4 : World) (hkx : Keeps NoB wr wx) (hk4 : Keeps NoB wx w4) => fj_next HJt.out hkx hk4 (room := room))
        clear HSl HR2
        go_wp2
        go_region_with (go_at_call 202; refine (HC.out _ ?_).mono ?_; (first | exact Keeps.refl _ _ | exact (Keeps.refl _ _).drew | exact ((Keeps.refl _ _).drew).drew); rintro e w4 ⟨p4, c4, d4, rfl, hr4, hk4, hkl4, hg4⟩; obtain ⟨A4, A5, C4, C5, y1, y2⟩ := HJ2.out _ w4 (by first | exact Keeps.refl _ _ | exact (Keeps.refl _ _).drew) hk4)
        all_goals
          go_wp2_with fail
          go_roundw
          case rel => exact ⟨t + 1, p4, c4, d4, by omega, by go_num, fj_set A4 A5 C4 C5 y1 y2 hr4 hkl4 hg4 (by first | exact HJt.out.keeps.trans hk4 | exact (HJt.out.keeps.drew).trans hk4)⟩
          case measure => simp [intOf]; omega
      · have hd : es.drop t = [] := List.drop_of_length_le (by omega)
        have HD := Lib.hid hd
        clear hd HSl HR2
        go_wp2
        (try simp only [Exit.inBlock, Exit.then])
        refine bodyPost_ret (v := .agg #[.slice pt d.length ct, .int .i64 room]) ?_ rfl ?_
        · rw [results_cell_one rfl]
          go_simp
        · have J := HJt.out
          have hlen : dt.length = d.length := by rw [J.kills.length, kill_length]
          have kk : Keeps (fun b => b = w.heap.size + 1) wr ((wr.setCell ⟨w.heap.size + 1, 0, none⟩ (.slice pt d.length ct)).setCell ⟨w.heap.size + 1, 1, none⟩ (.int .i64 room)) := (keeps_set wr ⟨w.heap.size + 1, 0, none⟩ _).trans (keeps_set _ ⟨w.heap.size + 1, 1, none⟩ _)
          refine ⟨pt, ct, dt, by unfold refV; rw [hlen], J.ref.keepS kk (fun b hb _ e => hb.2.2 e) (fun b hb _ => hb.1), J.keeps.step kk (fun b hb => .inr (by omega)), HF.out.kills.trans J.kills, fun hgb => HF.out.gone (J.kills.was hgb.1).1, fun j hj => ?_⟩
          rcases J.garb j hj with h | ⟨e, h6, _⟩
          · exact h
          · rw [HD.out] at h6; cases h6


theorem rfree_ok (n : Nat) : RFree n := by
  induction n using Nat.strongRecOn with
  | ind n ih => exact rfree_step n ih

/-- free of a disk whose only garbage may be one node: what is left is the disk without its garbage. -/
theorem r4free_any {S : Nat → Prop} {w : World} {p : Option Addr} {c : Nat} {d : Nds} {room : Int} (h : RefAt S w p c d) (hS : ∀ g, w.heap.size ≤ g → S g) (hI : DInv d) (hs : smallD d) (id : Int) (hid : has d id) (hg : ∀ j, Garb d j → j = id) :
    Calls Tryz.prog 202 #[refV p c d room, .int .i64 id] w fun e w' => ∃ p' c', e = .returned (refV p' c' (gc d) room) ∧ RefAt S w' p' c' (gc d) ∧ Keeps NoB w w' := by
  have hr := has_range hid
  refine (rfree_ok _ S w p c d room id rfl h hS hI hs hr.1 hr.2).mono ?_
  rintro e w' ⟨p', c', d', rfl, h1, h2, h3, h4, h5⟩
  have hn : NoGarb d' := fun j hj => by
    have := hg j (h5 j hj)
    subst this
    exact h4 hj
  rw [gc_eq h3 hn]
  exact ⟨p', c', rfl, h1, h2⟩

end Go.Proofs.YtbmalnllppamdaaGreatDoor

/-
  Contracts of the reference for layer 4, the sixth part: New, Hold, Chmod, Empty.
-/
namespace Go.Proofs.YtbmalnllppamdaaGreatDoor
open Go.RowKit
set_option maxRecDepth 100000
set_option maxHeartbeats 1000000

/-- The two variables of a method (the disk that was handed in, the result), and what was there before. -/
structure RBox (w w1 : World) (p : Option Addr) (n c : Nat) (room : Int) : Prop where
  A0 : w1.cell? ⟨w.heap.size, 0, none⟩ = some (.slice p n c)
  A1 : w1.cell? ⟨w.heap.size, 1, none⟩ = some (.int .i64 room)
  C0 : w1.cell? ⟨w.heap.size + 1, 0, none⟩ = some (.slice none 0 0)
  C1 : w1.cell? ⟨w.heap.size + 1, 1, none⟩ = some (.int .i64 0)
  zA : ∀ j, w1.frozen? ⟨w.heap.size, j, none⟩ = false
  zC : ∀ j, w1.frozen? ⟨w.heap.size + 1, j, none⟩ = false
  size : w.heap.size + 2 ≤ w1.heap.size
  keeps : Keeps NoB w w1

theorem rbox {w w1 : World} {p : Option Addr} {n c : Nat} {room : Int} {t1 t2 : TypeId} (hk : Keeps NoB ((w.alloc (.cells #[.slice p n c, .int .i64 room] t1)).alloc (.cells #[.slice none 0 0, .int .i64 0] t2)) w1) : RBox w w1 p n c room := by
  obtain ⟨a1, a2, z1, z2, z3⟩ := boxes2 hk
  exact ⟨a1 0 _ rfl, a1 1 _ rfl, a2 0 _ rfl, a2 1 _ rfl, z1, z2, z3, (((Keeps.refl NoB w).alloc _).alloc _).trans hk⟩

theorem RBox.on {w w1 w2 : World} {p : Option Addr} {n c : Nat} {room : Int} (h : RBox w w1 p n c room) (k : Keeps NoB w1 w2) : RBox w w2 p n c room := by
  have l1 := lt_of_cell h.A0
  have l2 := lt_of_cell h.C0
  have := k.size
  exact ⟨(k.cell (p := ⟨w.heap.size, 0, none⟩) l1 (fun h => h)).trans h.A0, (k.cell (p := ⟨w.heap.size, 1, none⟩) l1 (fun h => h)).trans h.A1, (k.cell (p := ⟨w.heap.size + 1, 0, none⟩) l2 (fun h => h)).trans h.C0, (k.cell (p := ⟨w.heap.size + 1, 1, none⟩) l2 (fun h => h)).trans h.C1,
    fun j => (k.frozen (p := ⟨w.heap.size, j, none⟩) l1 (fun h => h)).trans (h.zA j), fun j => (k.frozen (p := ⟨w.heap.size + 1, j, none⟩) l2 (fun h => h)).trans (h.zC j), by have := h.size; omega, h.keeps.trans k⟩

/-- What a method leaves: a disk, an error. -/
def RTo (S : Nat → Prop) (w : World) (d' : Nds) (room err : Int) (e : Ending) (w' : World) : Prop :=
  ∃ p' c', e = .returned (.tuple #[refV p' c' d' room, .int .i64 err]) ∧ RefAt S w' p' c' d' ∧ Keeps NoB w w'

section
variable {S : Nat → Prop} {w : World} {p : Option Addr} {c : Nat} {d : Nds} {room : Int}

theorem RefAt.but2 (h : RefAt S w p c d) {w1 : World} (hk : Keeps NoB w w1) : RefAt (But2 S w) w1 p c d := h.keepS hk (fun _ _ _ h => h) (fun g hg hl => ⟨hg, by omega, by omega⟩)

theorem but2_new (hS : ∀ g, w.heap.size ≤ g → S g) {w1 : World} (hk : w.heap.size + 2 ≤ w1.heap.size) : ∀ g, w1.heap.size ≤ g → But2 S w g := fun g hg => ⟨hS g (by omega), by omega, by omega⟩

/-- The result's variable stored: a disk that lies elsewhere. -/
theorem rto_store {w1 : World} {p' : Option Addr} {c' : Nat} {d' : Nds} {err : Int} (h : RefAt (But2 S w) w1 p' c' d') (k : Keeps NoB w w1) (v0 v1 : Value) :
    RTo S w d' room err (.returned (.tuple #[refV p' c' d' room, .int .i64 err])) ((w1.setCell ⟨w.heap.size + 1, 0, none⟩ v0).setCell ⟨w.heap.size + 1, 1, none⟩ v1) := by
  have kk : Keeps (fun b => b = w.heap.size + 1) w1 ((w1.setCell ⟨w.heap.size + 1, 0, none⟩ v0).setCell ⟨w.heap.size + 1, 1, none⟩ v1) := (keeps_set w1 ⟨w.heap.size + 1, 0, none⟩ _).trans (keeps_set _ ⟨w.heap.size + 1, 1, none⟩ _)
  exact ⟨_, _, rfl, h.keepS kk (fun b hb _ e => hb.2.2 e) (fun b hb _ => hb.1), k.step kk (fun b hb => .inr (by omega))⟩

def holdBy (d : Nds) (i b : Int) : Nds := upd d i ((nd d i).setHolds ((nd d i).holds + b))
def holdErr (d : Nds) (i b : Int) : Int := if has d i ∧ (0 ≤ b ∨ (nd d i).holds ≠ 0) then 0 else 12

theorem r4hold_any (h : RefAt S w p c d) (hS : ∀ g, w.heap.size ≤ g → S g) (hI : DInv d) (hcl : NoGarb d) (hs : mass d + 1 ≤ 2147483648) (i b : Int) (hb : b = 1 ∨ b = -1) :
    Calls Tryz.prog 151 #[refV p c d room, .int .i64 i, .int .i64 b] w (RTo S w (if holdErr d i b = 0 then gc (holdBy d i b) else d) room (holdErr d i b)) := by
  have hcap := h.cap
  have hmax := h.max
  unfold maxLen at hmax
  have hal : Keeps NoB w ((w.alloc (.cells #[.slice p d.length c, .int .i64 room] 31)).alloc (.cells #[.slice none 0 0, .int .i64 0] 31)) := ((Keeps.refl _ _).alloc _).alloc _
  have hh := r4has_any (room := room) (h.keepN hal) hI.zero i
  have hsm : smallD d := by unfold smallD; omega
  by_cases hi : has d i
  case neg =>
    have e : holdErr d i b = 12 := if_neg (fun h => hi h.1)
    rw [e, if_neg (by decide)]
    rw [decide_eq_false hi] at hh
    have HH := Lib.hid hh
    have Hh := Lib.hid (fun (w1 : World) (hk : Keeps NoB w w1) => h.but2 hk)
    clear hh h hS hI hcl hs hi hal e hb hsm
    unfold refV at *
    go_enter Tryz.func151, Tryz.ntmps151
    go_wp2_with (go_at_call 83; refine HH.out.mono ?_; rintro e w1 ⟨rfl, hk1⟩; have B := rbox hk1; have A0 := B.A0; have A1 := B.A1; have C0 := B.C0; have C1 := B.C1; have zA := B.zA; have zC := B.zC)
    (try simp only [Exit.inBlock, Exit.then])
    refine bodyPost_ret (v := .tuple #[.agg #[.slice p d.length c, .int .i64 room], .int .i64 12]) ?_ rfl ?_
    · rw [results_cell_tmp rfl]
      go_simp
    · exact rto_store (Hh.out _ B.keeps) B.keeps _ _
  case pos =>
    rw [decide_eq_true hi] at hh
    have hi0 := hi
    obtain ⟨k, rfl, hk⟩ := has_nat hi
    obtain ⟨g, off, q, m, rfl, hSg, hrow⟩ := h.rowAt hk
    have HR := Lib.hid (fun (w1 : World) (hk1 : Keeps NoB w w1) => hrow.keepN hk1)
    have Hh := Lib.hid (fun (w1 : World) (hk : Keeps NoB w w1) => h.but2 hk)
    by_cases hz : b = -1 ∧ (nd d (k : Int)).holds = 0
    · obtain ⟨rfl, hz⟩ := hz
      have e : holdErr d k (-1) = 12 := if_neg (fun h => h.2.elim (by omega) (fun h => h hz))
      rw [e, if_neg (by decide)]
      have HC := Lib.hid (fun (w1 : World) (hk1 : Keeps NoB w w1) => (⟨by rw [← hz]; exact (hrow.keepN hk1).c2, (hrow.keepN hk1).lt⟩ : w1.cell? ⟨g, off + k * 5 + 2, none⟩ = some (.int .i64 0) ∧ g < w1.heap.size))
      have HH := Lib.hid hh
      clear hh h hS hI hcl hs hi hi0 hal e hb hsm hrow hz
      unfold refV at *
      go_enter Tryz.func151, Tryz.ntmps151
      go_wp2_with (go_at_call 83; refine HH.out.mono ?_; rintro e w1 ⟨rfl, hk1⟩; have B := rbox hk1; have A0 := B.A0; have A1 := B.A1; have C0 := B.C0; have C1 := B.C1; have zA := B.zA; have zC := B.zC; obtain ⟨R2, hgl⟩ := HC.out _ B.keeps)
      (try simp only [Exit.inBlock, Exit.then])
      refine bodyPost_ret (v := .tuple #[.agg #[.slice (some ⟨g, off, none⟩) d.length c, .int .i64 room], .int .i64 12]) ?_ rfl ?_
      · rw [results_cell_tmp rfl]
        go_simp
      · exact rto_store (Hh.out _ B.keeps) B.keeps _ _
    · have e : holdErr d k b = 0 := if_pos ⟨hi, by omega⟩
      rw [e, if_pos rfl]
      have hh0 := (hI.node k).holds
      have hhl := holds_le hsm (k : Int)
      have hbb : 0 ≤ (nd d (k : Int)).holds + b := by omega
      have hml := mass_ge d
      have hcond : b < 0 → ((nd d (k : Int)).holds == 0) = false := fun h => by
        have : ¬ (nd d (k : Int)).holds = 0 := fun h0 => hz ⟨by omega, h0⟩
        simpa using this
      have hinv : DInv (holdBy d k b) := hI.upd hi ((hI.node k).setHolds hi hbb) rfl rfl
      have hsm2 : smallD (holdBy d k b) := by
        have := mass_upd (n := (nd d (k : Int)).setHolds ((nd d (k : Int)).holds + b)) hi
        have e : mass1 ((nd d (k : Int)).setHolds ((nd d (k : Int)).holds + b)) ≤ mass1 (nd d (k : Int)) + 1 := by unfold mass1; simp only [Nd.setHolds]; omega
        unfold smallD holdBy
        omega
      have hhas2 : has (holdBy d k b) (k : Int) := (has_upd (n := (nd d (k : Int)).setHolds ((nd d (k : Int)).holds + b)) hi hi k).2 hi
      have hgarb : ∀ j, Garb (holdBy d k b) j → j = (k : Int) := fun j hj => by
        by_cases e : j = (k : Int)
        · exact e
        · have hr := has_range hi
          obtain ⟨p1, p2, p4⟩ := hj
          unfold holdBy at p1 p2 p4
          rw [nd_upd hr.1 hr.2, if_neg e] at p4
          rw [links_same (n := (nd d (k : Int)).setHolds ((nd d (k : Int)).holds + b)) hi rfl] at p2
          exact absurd ⟨(has_upd (n := (nd d (k : Int)).setHolds ((nd d (k : Int)).holds + b)) hi hi j).1 p1, p2, p4⟩ (hcl j)
      have hwr : wrap64 ((nd d (k : Int)).holds + b) = (nd d (k : Int)).holds + b := IntWalk.wrap64_in _ (by omega)
      have hput := fun (w2 : World) (hk2 : Keeps NoB w w2) (hsz : w.heap.size + 2 ≤ w2.heap.size) => r4put_any (S := But2 S w) (room := room) (h.but2 hk2) (but2_new hS hsz) k hk (by omega) ((nd d (k : Int)).setHolds ((nd d (k : Int)).holds + b)) q m (hrow.sl.keepS hk2 (fun _ _ _ h => h) (fun g hg hl => ⟨hg, by omega, by omega⟩))
      have hfree := fun (w3 : World) (p3 : Option Addr) (c3 : Nat) (hr : RefAt (But2 S w) w3 p3 c3 (holdBy d k b)) (hsz : w.heap.size + 2 ≤ w3.heap.size) => r4free_any (room := room) hr (but2_new hS hsz) hinv hsm2 k hhas2 hgarb
      have HP := Lib.hid hput
      have HF := Lib.hid hfree
      have HH := Lib.hid hh
      have hlen : (holdBy d k b).length = d.length := upd_length _ _ _
      unfold refV at *
      rw [hlen] at HF
      have hx0 : ((nd d (k : Int)).setHolds ((nd d (k : Int)).holds + b)).kind = (nd d (k : Int)).kind := rfl
      have hx1 : ((nd d (k : Int)).setHolds ((nd d (k : Int)).holds + b)).mode = (nd d (k : Int)).mode := rfl
      have hx2 : ((nd d (k : Int)).setHolds ((nd d (k : Int)).holds + b)).holds = (nd d (k : Int)).holds + b := rfl
      have hx3 : ((nd d (k : Int)).setHolds ((nd d (k : Int)).holds + b)).data = (nd d (k : Int)).data := rfl
      have hx4 : ((nd d (k : Int)).setHolds ((nd d (k : Int)).holds + b)).ents = (nd d (k : Int)).ents := rfl
      rw [hx0, hx1, hx2, hx3, hx4] at HP
      have hfold : upd d (k : Int) ((nd d (k : Int)).setHolds ((nd d (k : Int)).holds + b)) = holdBy d k b := rfl
      rw [hfold] at HP
      clear hfold
      have HC := Lib.hid (fun (w1 : World) (hk1 : Keeps NoB w w1) => (⟨(hrow.keepN hk1).c0, (hrow.keepN hk1).c1, (hrow.keepN hk1).c2, (hrow.keepN hk1).c3, (hrow.keepN hk1).c4, (hrow.keepN hk1).lt⟩ : _ ∧ _ ∧ _ ∧ _ ∧ _ ∧ _))
      have HL := Lib.hid hlen
      generalize holdBy d k b = dd at *
      clear hh h hS hI hcl hs hi hi0 hal e hsm hrow hz hput hfree hhas2 hgarb hinv hsm2 hml hhl hh0 hbb hlen hx0 hx1 hx2 hx3 hx4 HR
      generalize (nd d (k : Int)).holds = hd at *
      generalize (nd d (k : Int)).ents.length = en at *
      rcases hb with rfl | rfl
      all_goals
        go_enter Tryz.func151, Tryz.ntmps151
        go_wp2_with (first | (go_at_call 83; refine HH.out.mono ?_; rintro e w1 ⟨rfl, hk1⟩; have B := rbox hk1; have A0 := B.A0; have A1 := B.A1; have C0 := B.C0; have C1 := B.C1; have zA := B.zA; have zC := B.zC; obtain ⟨R0, R1, R2, R3, R4, hgl⟩ := HC.out _ B.keeps; have l0 : w.heap.size < w1.heap.size := Nat.lt_of_lt_of_le (by simp) B.size; have l1 : w.heap.size + 1 < w1.heap.size := B.size) | (go_at_call 182; go_loud (refine (HP.out _ (B.keeps.alloc _) (Nat.le_trans B.size (by simp))).mono ?_); rintro e w3 ⟨v', rfl, href, hk3⟩; obtain ⟨p3, c3, hv, href⟩ := href; have B3 := (B.on ((Keeps.refl NoB _).alloc _)).on hk3; unfold refV at hv; rw [HL.out] at hv; subst hv) | (go_at_call 202; go_loud (refine (HF.out _ _ _ href B3.size).mono ?_); rintro e w4 ⟨p4, c4, rfl, hr4, hk4⟩; have B4 := B3.on hk4; have D0 := B4.C0; have D1 := B4.C1; have zD := B4.zC))
        (try simp only [Exit.inBlock, Exit.then])
        refine bodyPost_ret (v := .tuple #[.agg #[.slice p4 (gc dd).length c4, .int .i64 room], .int .i64 0]) ?_ rfl ?_
        · rw [results_cell_tmp rfl]
          go_simp
        · exact rto_store hr4 B4.keeps _ _

theorem r4chmod_any (h : RefAt S w p c d) (hS : ∀ g, w.heap.size ≤ g → S g) (hI : DInv d) (hs : smallD d) (i x : Int) :
    Calls Tryz.prog 123 #[refV p c d room, .int .i64 i, .int .i64 x] w (RTo S w (if chmodErr d i x = 0 then chmodTo d i x else d) room (chmodErr d i x)) := by
  have hcap := h.cap
  have hmax := h.max
  unfold maxLen at hmax
  have hal : Keeps NoB w ((w.alloc (.cells #[.slice p d.length c, .int .i64 room] 31)).alloc (.cells #[.slice none 0 0, .int .i64 0] 31)) := ((Keeps.refl _ _).alloc _).alloc _
  have hh := r4has_any (room := room) (h.keepN hal) hI.zero i
  by_cases hi : has d i
  case neg =>
    have e : chmodErr d i x = 12 := if_pos (not_has hi)
    rw [e, if_neg (by decide)]
    rw [decide_eq_false hi] at hh
    have HH := Lib.hid hh
    have Hh := Lib.hid (fun (w1 : World) (hk : Keeps NoB w w1) => h.but2 hk)
    clear hh h hS hI hs hi hal e
    unfold refV at *
    go_enter Tryz.func123, Tryz.ntmps123
    go_wp2_with (go_at_call 83; refine HH.out.mono ?_; rintro e w1 ⟨rfl, hk1⟩; have B := rbox hk1; have A0 := B.A0; have A1 := B.A1; have C0 := B.C0; have C1 := B.C1; have zA := B.zA; have zC := B.zC)
    (try simp only [Exit.inBlock, Exit.then])
    refine bodyPost_ret (v := .tuple #[.agg #[.slice p d.length c, .int .i64 room], .int .i64 12]) ?_ rfl ?_
    · rw [results_cell_tmp rfl]
      go_simp
    · exact rto_store (Hh.out _ B.keeps) B.keeps _ _
  case pos =>
    rw [decide_eq_true hi] at hh
    have hi0 : ¬ (nd d i).kind = 0 := hi
    have HH := Lib.hid hh
    by_cases hx : okMode x = true
    case neg =>
      have e : chmodErr d i x = 10 := by unfold chmodErr; rw [if_neg hi0, if_neg hx]
      rw [e, if_neg (by decide)]
      have hx' : x < 0 ∨ (¬ x < 0 ∧ 4095 < x) := by simp [okMode] at hx; omega
      have Hh := Lib.hid (fun (w1 : World) (hk : Keeps NoB w w1) => h.but2 hk)
      clear hh h hS hI hs hi hal e hi0 hx
      unfold refV at *
      rcases hx' with hx | ⟨hx, hy⟩
      all_goals
        go_enter Tryz.func123, Tryz.ntmps123
        go_wp2_with (go_at_call 83; refine HH.out.mono ?_; rintro e w1 ⟨rfl, hk1⟩; have B := rbox hk1; have A0 := B.A0; have A1 := B.A1; have C0 := B.C0; have C1 := B.C1; have zA := B.zA; have zC := B.zC)
        (try simp only [Exit.inBlock, Exit.then])
        refine bodyPost_ret (v := .tuple #[.agg #[.slice p d.length c, .int .i64 room], .int .i64 10]) ?_ rfl ?_
        · rw [results_cell_tmp rfl]
          go_simp
        · exact rto_store (Hh.out _ B.keeps) B.keeps _ _
    have e : chmodErr d i x = 0 := by unfold chmodErr; rw [if_neg hi0, if_pos hx]
    rw [e, if_pos rfl]
    have hx' : 0 ≤ x ∧ x ≤ 4095 := by simpa [okMode] using hx
    obtain ⟨hxa, hxb⟩ := hx'
    obtain ⟨k, rfl, hk⟩ := has_nat hi
    obtain ⟨g, off, q, m, rfl, hSg, hrow⟩ := h.rowAt hk
    have Hh := Lib.hid (fun (w1 : World) (hk : Keeps NoB w w1) => h.but2 hk)
    have HC := Lib.hid (fun (w1 : World) (hk1 : Keeps NoB w w1) => (⟨(hrow.keepN hk1).c0, (hrow.keepN hk1).c1, (hrow.keepN hk1).c2, (hrow.keepN hk1).c3, (hrow.keepN hk1).c4, (hrow.keepN hk1).lt⟩ : _ ∧ _ ∧ _ ∧ _ ∧ _ ∧ _))
    have hput := fun (w2 : World) (hk2 : Keeps NoB w w2) (hsz : w.heap.size + 2 ≤ w2.heap.size) => r4put_any (S := But2 S w) (room := room) (h.but2 hk2) (but2_new hS hsz) k hk (by have := mass_ge d; unfold smallD at hs; omega) ((nd d (k : Int)).setMode x) q m (hrow.sl.keepS hk2 (fun _ _ _ h => h) (fun g hg hl => ⟨hg, by omega, by omega⟩))
    have hlen : (chmodTo d k x).length = d.length := upd_length _ _ _
    have hfold : upd d (k : Int) ((nd d (k : Int)).setMode x) = chmodTo d k x := rfl
    have hx0 : ((nd d (k : Int)).setMode x).kind = (nd d (k : Int)).kind := rfl
    have hx1 : ((nd d (k : Int)).setMode x).mode = x := rfl
    have hx2 : ((nd d (k : Int)).setMode x).holds = (nd d (k : Int)).holds := rfl
    have hx3 : ((nd d (k : Int)).setMode x).data = (nd d (k : Int)).data := rfl
    have hx4 : ((nd d (k : Int)).setMode x).ents = (nd d (k : Int)).ents := rfl
    rw [hx0, hx1, hx2, hx3, hx4, hfold] at hput
    have HP := Lib.hid hput
    have HL := Lib.hid hlen
    clear hput hlen hfold hx0 hx1 hx2 hx3 hx4
    generalize chmodTo d k x = dd at *
    clear hh h hS hI hs hi hal e hi0 hx hrow
    unfold refV at *
    generalize (nd d (k : Int)).ents.length = en at *
    go_enter Tryz.func123, Tryz.ntmps123
    go_wp2_with (first | (go_at_call 83; refine HH.out.mono ?_; rintro e w1 ⟨rfl, hk1⟩; have B := rbox hk1; have A0 := B.A0; have A1 := B.A1; have C0 := B.C0; have C1 := B.C1; have zA := B.zA; have zC := B.zC; obtain ⟨R0, R1, R2, R3, R4, hgl⟩ := HC.out _ B.keeps; have l0 : w.heap.size < w1.heap.size := Nat.lt_of_lt_of_le (by simp) B.size; have l1 : w.heap.size + 1 < w1.heap.size := B.size) | (go_at_call 182; go_loud (refine (HP.out _ (B.keeps.alloc _) (Nat.le_trans B.size (by simp))).mono ?_); rintro e w3 ⟨v', rfl, href, hk3⟩; obtain ⟨p3, c3, hv, href⟩ := href; have B3 := (B.on ((Keeps.refl NoB _).alloc _)).on hk3; unfold refV at hv; rw [HL.out] at hv; subst hv; have D0 := B3.C0; have D1 := B3.C1; have zD := B3.zC))
    (try simp only [Exit.inBlock, Exit.then])
    refine bodyPost_ret (v := .tuple #[.agg #[.slice p3 d.length c3, .int .i64 room], .int .i64 0]) ?_ rfl ?_
    · rw [results_cell_tmp rfl]
      go_simp
    · have hz := rto_store (room := room) (err := 0) href B3.keeps (.slice p3 d.length c3) (.int .i64 room)
      unfold refV at hz
      rw [HL.out] at hz
      exact hz

theorem r4empty_any (h : RefAt S w p c d) (hS : ∀ g, w.heap.size ≤ g → S g) (hI : DInv d) (hs : smallD d) (i : Int) :
    Calls Tryz.prog 212 #[refV p c d room, .int .i64 i] w (RTo S w (if fileErr d i = 0 then emptyTo d i else d) room (fileErr d i)) := by
  have hcap := h.cap
  have hmax := h.max
  unfold maxLen at hmax
  have hal : Keeps NoB w ((w.alloc (.cells #[.slice p d.length c, .int .i64 room] 31)).alloc (.cells #[.slice none 0 0, .int .i64 0] 31)) := ((Keeps.refl _ _).alloc _).alloc _
  have hh := r4file_any (room := room) (h.keepN hal) hI i
  by_cases he : fileErr d i = 0
  case neg =>
    rw [if_neg he]
    have HH := Lib.hid hh
    have Hh := Lib.hid (fun (w1 : World) (hk : Keeps NoB w w1) => h.but2 hk)
    clear hh h hS hI hs hal
    generalize fileErr d i = er at *
    unfold refV at *
    go_enter Tryz.func212, Tryz.ntmps212
    go_wp2_with (go_at_call 252; refine HH.out.mono ?_; rintro e w1 ⟨rfl, hk1⟩; have B := rbox hk1; have A0 := B.A0; have A1 := B.A1; have C0 := B.C0; have C1 := B.C1; have zA := B.zA; have zC := B.zC)
    (try simp only [Exit.inBlock, Exit.then])
    refine bodyPost_ret (v := .tuple #[.agg #[.slice p d.length c, .int .i64 room], .int .i64 er]) ?_ rfl ?_
    · rw [results_cell_tmp rfl]
      go_simp
    · exact rto_store (Hh.out _ B.keeps) B.keeps _ _
  case pos =>
    have hi := (fileErr_zero he).1
    rw [he] at hh ⊢
    rw [if_pos rfl]
    have HH := Lib.hid hh
    obtain ⟨k, rfl, hk⟩ := has_nat hi
    obtain ⟨g, off, q, m, rfl, hSg, hrow⟩ := h.rowAt hk
    have Hh := Lib.hid (fun (w1 : World) (hk : Keeps NoB w w1) => h.but2 hk)
    have HC := Lib.hid (fun (w1 : World) (hk1 : Keeps NoB w w1) => (⟨(hrow.keepN hk1).c0, (hrow.keepN hk1).c1, (hrow.keepN hk1).c2, (hrow.keepN hk1).c3, (hrow.keepN hk1).c4, (hrow.keepN hk1).lt⟩ : _ ∧ _ ∧ _ ∧ _ ∧ _ ∧ _))
    have hput := fun (w2 : World) (hk2 : Keeps NoB w w2) (hsz : w.heap.size + 2 ≤ w2.heap.size) => r4put_any (S := But2 S w) (room := room) (h.but2 hk2) (but2_new hS hsz) k hk (by have := mass_ge d; unfold smallD at hs; omega) ((nd d (k : Int)).setData ⟨#[]⟩) q m (hrow.sl.keepS hk2 (fun _ _ _ h => h) (fun g hg hl => ⟨hg, by omega, by omega⟩))
    have hlen : (emptyTo d k).length = d.length := upd_length _ _ _
    have hfold : upd d (k : Int) ((nd d (k : Int)).setData ⟨#[]⟩) = emptyTo d k := rfl
    have hx0 : ((nd d (k : Int)).setData ⟨#[]⟩).kind = (nd d (k : Int)).kind := rfl
    have hx1 : ((nd d (k : Int)).setData ⟨#[]⟩).mode = (nd d (k : Int)).mode := rfl
    have hx2 : ((nd d (k : Int)).setData ⟨#[]⟩).holds = (nd d (k : Int)).holds := rfl
    have hx3 : ((nd d (k : Int)).setData ⟨#[]⟩).data = ⟨#[]⟩ := rfl
    have hx4 : ((nd d (k : Int)).setData ⟨#[]⟩).ents = (nd d (k : Int)).ents := rfl
    rw [hx0, hx1, hx2, hx3, hx4, hfold] at hput
    have HP := Lib.hid hput
    have HL := Lib.hid hlen
    clear hput hlen hfold hx0 hx1 hx2 hx3 hx4
    generalize emptyTo d k = dd at *
    clear hh h hS hI hs hi hal he hrow
    unfold refV at *
    generalize (nd d (k : Int)).ents.length = en at *
    go_enter Tryz.func212, Tryz.ntmps212
    go_wp2_with (first | (go_at_call 252; refine HH.out.mono ?_; rintro e w1 ⟨rfl, hk1⟩; have B := rbox hk1; have A0 := B.A0; have A1 := B.A1; have C0 := B.C0; have C1 := B.C1; have zA := B.zA; have zC := B.zC; obtain ⟨R0, R1, R2, R3, R4, hgl⟩ := HC.out _ B.keeps; have l0 : w.heap.size < w1.heap.size := Nat.lt_of_lt_of_le (by simp) B.size; have l1 : w.heap.size + 1 < w1.heap.size := B.size) | (go_at_call 182; go_loud (refine (HP.out _ (B.keeps.alloc _) (Nat.le_trans B.size (by simp))).mono ?_); rintro e w3 ⟨v', rfl, href, hk3⟩; obtain ⟨p3, c3, hv, href⟩ := href; have B3 := (B.on ((Keeps.refl NoB _).alloc _)).on hk3; unfold refV at hv; rw [HL.out] at hv; subst hv; have D0 := B3.C0; have D1 := B3.C1; have zD := B3.zC))
    (try simp only [Exit.inBlock, Exit.then])
    refine bodyPost_ret (v := .tuple #[.agg #[.slice p3 d.length c3, .int .i64 room], .int .i64 0]) ?_ rfl ?_
    · rw [results_cell_tmp rfl]
      go_simp
    · have hz := rto_store (room := room) (err := 0) href B3.keeps (.slice p3 d.length c3) (.int .i64 room)
      unfold refV at hz
      rw [HL.out] at hz
      exact hz

end

end Go.Proofs.YtbmalnllppamdaaGreatDoor

/-
  Contracts of the reference for layer 4, the seventh part: Leave.
-/
namespace Go.Proofs.YtbmalnllppamdaaGreatDoor
open Go.RowKit
set_option maxRecDepth 100000
set_option maxHeartbeats 1000000

section
variable {S : Nat → Prop} {w : World} {p : Option Addr} {c : Nat} {d : Nds} {room : Int}

theorem drop_free (hI : DInv d) (hcl : NoGarb d) {i k : Int} {name : ByteArray} (hi : (nd d i).kind = 2) (hg : entGet (nd d i).ents name = some k) : has (dropTo d i name) k ∧ ∀ j, Garb (dropTo d i name) j → j = k := by
  have hh := setE_pos hI hi
  refine ⟨(has_setE hh _ k).2 (hI.tgt i _ (entGet_mem hg)).1, fun j hj => ?_⟩
  obtain ⟨g1, g2, g3⟩ := hj
  have h2 := drop_links hI hh hg j
  rw [show (nd (dropTo d i name) j).holds = (nd d j).holds from holds_setE hh _ j] at g3
  by_cases e : j = k
  · exact e
  · rw [if_neg (fun h => e h.symm)] at h2
    exact absurd ⟨(has_setE hh _ j).1 g1, by omega, g3⟩ (hcl j)

theorem boxedz {w w1 : World} {cs : Array Value} {T : TypeId} (hk : Keeps NoB (w.alloc (.cells cs T)) w1) (j : Nat) : w1.frozen? ⟨w.heap.size, j, none⟩ = false := by
  have hn := heap_alloc_new w (.cells cs T)
  have h4 := (hk.block w.heap.size (by simp) (fun h => h)).trans hn
  exact frozen_of_row w1 _ j _ T h4

theorem RBox.set {w w1 : World} {p : Option Addr} {n c : Nat} {room : Int} (h : RBox w w1 p n c room) {N : Nat} (hN : w.heap.size + 2 ≤ N) (j : Nat) (v : Value) : RBox w (w1.setCell ⟨N, j, none⟩ v) p n c room := by
  have k := keeps_set w1 ⟨N, j, none⟩ v
  have l1 := lt_of_cell h.A0
  have l2 := lt_of_cell h.C0
  have n1 : ¬ w.heap.size = N := by omega
  have n2 : ¬ w.heap.size + 1 = N := by omega
  have := k.size
  exact ⟨(k.cell (p := ⟨w.heap.size, 0, none⟩) l1 n1).trans h.A0, (k.cell (p := ⟨w.heap.size, 1, none⟩) l1 n1).trans h.A1, (k.cell (p := ⟨w.heap.size + 1, 0, none⟩) l2 n2).trans h.C0, (k.cell (p := ⟨w.heap.size + 1, 1, none⟩) l2 n2).trans h.C1,
    fun j => (k.frozen (p := ⟨w.heap.size, j, none⟩) l1 n1).trans (h.zA j), fun j => (k.frozen (p := ⟨w.heap.size + 1, j, none⟩) l2 n2).trans (h.zC j), by have := h.size; omega, h.keeps.step k (fun b hb => .inr (by have : b = N := hb; omega))⟩

/-- A variable of one disk's method: a node. -/
structure NBox (w1 w2 : World) (v0 v1 v2 v3 v4 : Value) : Prop where
  N0 : w2.cell? ⟨w1.heap.size, 0, none⟩ = some v0
  N1 : w2.cell? ⟨w1.heap.size, 1, none⟩ = some v1
  N2 : w2.cell? ⟨w1.heap.size, 2, none⟩ = some v2
  N3 : w2.cell? ⟨w1.heap.size, 3, none⟩ = some v3
  N4 : w2.cell? ⟨w1.heap.size, 4, none⟩ = some v4
  zN : ∀ j, w2.frozen? ⟨w1.heap.size, j, none⟩ = false

theorem nbox {w1 w2 : World} {v0 v1 v2 v3 v4 : Value} {T : TypeId} (hk : Keeps NoB (w1.alloc (.cells #[v0, v1, v2, v3, v4] T)) w2) : NBox w1 w2 v0 v1 v2 v3 v4 :=
  ⟨boxed hk 0 _ rfl, boxed hk 1 _ rfl, boxed hk 2 _ rfl, boxed hk 3 _ rfl, boxed hk 4 _ rfl, boxedz hk⟩

/-- Blocks of S, but for three variables. -/
def But3 (S : Nat → Prop) (w : World) (N : Nat) : Nat → Prop := fun b => But2 S w b ∧ b ≠ N

theorem r4leave_any (h : RefAt S w p c d) (hS : ∀ g, w.heap.size ≤ g → S g) (hI : DInv d) (hcl : NoGarb d) (hs : smallD d) (i : Int) (name : ByteArray) :
    Calls Tryz.prog 141 #[refV p c d room, .int .i64 i, .string name] w (RTo S w (leaveTo d i name) room (leaveErr d i name)) := by
  have hcap := h.cap
  have hmax := h.max
  unfold maxLen at hmax
  have hal : Keeps NoB w ((w.alloc (.cells #[.slice p d.length c, .int .i64 room] 31)).alloc (.cells #[.slice none 0 0, .int .i64 0] 31)) := ((Keeps.refl _ _).alloc _).alloc _
  have hh := r4look_any (room := room) (h.keepN hal) hI i name
  unfold leaveTo
  by_cases c0 : lookErr d i name = 0
  case neg =>
    have e : leaveErr d i name = lookErr d i name := if_pos c0
    rw [e, if_neg c0]
    have HH := Lib.hid hh
    have Hh := Lib.hid (fun (w1 : World) (hk : Keeps NoB w w1) => h.but2 hk)
    clear hh h hS hI hs hal hcl e
    generalize lookErr d i name = er at *
    generalize lookOf d i name = lo at *
    unfold refV at *
    go_enter Tryz.func141, Tryz.ntmps141
    go_wp2_with (go_at_call 200; refine HH.out.mono ?_; rintro e w1 ⟨rfl, hk1⟩; have B := rbox hk1; have A0 := B.A0; have A1 := B.A1; have C0 := B.C0; have C1 := B.C1; have zA := B.zA; have zC := B.zC)
    (try simp only [Exit.inBlock, Exit.then])
    refine bodyPost_ret (v := .tuple #[.agg #[.slice p d.length c, .int .i64 room], .int .i64 er]) ?_ rfl ?_
    · rw [results_cell_tmp rfl]
      go_simp
    · exact rto_store (Hh.out _ B.keeps) B.keeps _ _
  case pos =>
  obtain ⟨f0, hget⟩ := lookErr_zero c0
  obtain ⟨hi, hi2⟩ := folderErr_zero f0
  have hE : ∀ (P : Int → Prop), P (if (nd d (lookOf d i name)).ents ≠ [] then 16 else 0) → P (leaveErr d i name) := fun P hP => by
    unfold leaveErr; rw [if_neg (by simpa using c0)]; exact hP
  rw [c0] at hh
  generalize hkk : lookOf d i name = ko at *
  have hk := (hI.tgt i _ (entGet_mem hget)).1
  have hko := hk
  obtain ⟨o, rfl, ho⟩ := has_nat hk
  have hi0 := hi
  obtain ⟨k, rfl, hkl⟩ := has_nat hi
  obtain ⟨g, off, q, m, rfl, hSg, hrow⟩ := h.rowAt hkl
  obtain ⟨g', off', q', m', hp', _, hrow'⟩ := h.rowAt ho
  cases hp'
  have Hh := Lib.hid (fun (w1 : World) (hk : Keeps NoB w w1) => h.but2 hk)
  have HC := Lib.hid (fun (w1 : World) (hk1 : Keeps NoB w w1) => (⟨(hrow.keepN hk1).c0, (hrow.keepN hk1).c1, (hrow.keepN hk1).c2, (hrow.keepN hk1).c3, (hrow.keepN hk1).c4, (hrow.keepN hk1).lt, (hrow'.keepN hk1).c4⟩ : _ ∧ _ ∧ _ ∧ _ ∧ _ ∧ _ ∧ _))
  have HH := Lib.hid hh
  have hcap2 := hrow'.sl.cap
  have hmax2 := hrow'.sl.max
  unfold maxLen at hmax2
  by_cases d1 : (nd d (o : Int)).ents = []
  case neg =>
    have e : leaveErr d k name = 16 := hE (fun x => x = 16) (if_pos d1)
    rw [e, if_neg (by decide)]
    have hpos : (0 : Int) < ((nd d (o : Int)).ents.length : Int) := by
      have := List.length_pos_iff.2 d1
      omega
    clear hh h hS hI hs hal hcl e hE hi hi0 hi2 hk hko hget hkk d1 c0 f0 hrow hrow'
    generalize (nd d (o : Int)).ents.length = eo at *
    unfold refV at *
    go_enter Tryz.func141, Tryz.ntmps141
    go_wp2_with (go_at_call 200; refine HH.out.mono ?_; rintro e w1 ⟨rfl, hk1⟩; have B := rbox hk1; have A0 := B.A0; have A1 := B.A1; have C0 := B.C0; have C1 := B.C1; have zA := B.zA; have zC := B.zC; obtain ⟨R0, R1, R2, R3, R4, hgl, Q4⟩ := HC.out _ B.keeps)
    (try simp only [Exit.inBlock, Exit.then])
    refine bodyPost_ret (v := .tuple #[.agg #[.slice (some ⟨g, off, none⟩) d.length c, .int .i64 room], .int .i64 16]) ?_ rfl ?_
    · rw [results_cell_tmp rfl]
      go_simp
    · exact rto_store (Hh.out _ B.keeps) B.keeps _ _
  case pos =>
    have e : leaveErr d k name = 0 := hE (fun x => x = 0) (if_neg (by simpa using d1))
    rw [e, if_pos rfl]
    have hlen0 : (nd d (o : Int)).ents.length = 0 := by rw [d1]; rfl
    rw [hlen0] at HC
    have hel := nd_ents_len hs (k : Int)
    have hris := (hI.node (k : Int)).rising
    have hhas : hasErr (nd d (k : Int)).ents name = 0 := by unfold hasErr; rw [if_pos (entGet_has hget)]
    have hdrop := fun (w2 : World) (N : Nat) (hk2 : Keeps NoB w w2) (hN : w.heap.size + 2 ≤ N) (hsz : N < w2.heap.size) => r3drop_any (But3 S w N) w2 q m (nd d (k : Int)).ents name
      (hrow.sl.keepS hk2 (fun _ _ _ h => h) (fun g hg hl => ⟨⟨hg, by omega, by omega⟩, by omega⟩)) hris (by omega) (fun g hg => ⟨⟨hS g (by omega), by omega, by omega⟩, by omega⟩)
    rw [hhas] at hdrop
    have hput := fun (w2 : World) (q2 : Option Addr) (m2 : Nat) (hk2 : Keeps NoB w w2) (hsz : w.heap.size + 2 ≤ w2.heap.size) (hx : SlAt encEnt (But2 S w) w2 q2 m2 (entDel (nd d (k : Int)).ents name)) => r4put_any (S := But2 S w) (room := room) (h.but2 hk2) (but2_new hS hsz) k hkl (by have := mass_ge d; unfold smallD at hs; omega) ((nd d (k : Int)).setEnts (entDel (nd d (k : Int)).ents name)) q2 m2 hx
    have hlen : (dropTo d k name).length = d.length := length_setE _ _ _
    have hfold : upd d (k : Int) ((nd d (k : Int)).setEnts (entDel (nd d (k : Int)).ents name)) = dropTo d k name := rfl
    have hx0 : ((nd d (k : Int)).setEnts (entDel (nd d (k : Int)).ents name)).kind = (nd d (k : Int)).kind := rfl
    have hx1 : ((nd d (k : Int)).setEnts (entDel (nd d (k : Int)).ents name)).mode = (nd d (k : Int)).mode := rfl
    have hx2 : ((nd d (k : Int)).setEnts (entDel (nd d (k : Int)).ents name)).holds = (nd d (k : Int)).holds := rfl
    have hx3 : ((nd d (k : Int)).setEnts (entDel (nd d (k : Int)).ents name)).data = (nd d (k : Int)).data := rfl
    have hx4 : ((nd d (k : Int)).setEnts (entDel (nd d (k : Int)).ents name)).ents = entDel (nd d (k : Int)).ents name := rfl
    rw [hfold] at hput
    simp only [hx0, hx1, hx2, hx3, hx4] at hput
    obtain ⟨hf1, hf2⟩ := drop_free hI hcl hi2 hget
    have hsm2 : smallD (dropTo d k name) := by
      have := drop_mass hI hi0 hget
      unfold smallD at *
      omega
    have hfree := fun (w3 : World) (p3 : Option Addr) (c3 : Nat) (hr : RefAt (But2 S w) w3 p3 c3 (dropTo d k name)) (hsz : w.heap.size + 2 ≤ w3.heap.size) => r4free_any (room := room) hr (but2_new hS hsz) (drop_inv hI hi2 hget) hsm2 o hf1 hf2
    have HP := Lib.hid hput
    have HD := Lib.hid hdrop
    have HF := Lib.hid hfree
    have HL := Lib.hid hlen
    unfold refV at *
    rw [HL.out] at HF
    clear hh h hS hI hs hal hcl e hE hi hi0 hi2 hk hko hget hkk d1 c0 f0 hrow hrow' hput hdrop hfree hlen hfold hx0 hx1 hx2 hx3 hx4 hf1 hf2 hsm2 hris hhas hlen0
    generalize dropTo d k name = dd at *
    generalize entDel (nd d (k : Int)).ents name = ne at *
    generalize (nd d (k : Int)).ents = en at *
    go_enter Tryz.func141, Tryz.ntmps141
    go_wp2_with (first | (go_at_call 200; refine HH.out.mono ?_; rintro e w1 ⟨rfl, hk1⟩; have B := rbox hk1; have A0 := B.A0; have A1 := B.A1; have C0 := B.C0; have C1 := B.C1; have zA := B.zA; have zC := B.zC; obtain ⟨R0, R1, R2, R3, R4, hgl, Q4⟩ := HC.out _ B.keeps; have l0 : w.heap.size < w1.heap.size := Nat.lt_of_lt_of_le (by simp) B.size; have l1 : w.heap.size + 1 < w1.heap.size := B.size) | (go_at_call 201; go_loud (refine (HD.out _ w1.heap.size (B.keeps.alloc _) B.size (by simp)).mono ?_); rintro e w2 ⟨v2, rfl, hsl, hk2⟩; obtain ⟨q2, m2, rfl, hsl⟩ := hsl; have NB := nbox hk2; have B2 := (B.on ((Keeps.refl NoB _).alloc _)).on hk2; have A0' := B2.A0; have A1' := B2.A1; have N0 := NB.N0; have N1 := NB.N1; have N2 := NB.N2; have N3 := NB.N3; have N4 := NB.N4; have zN := NB.zN; have nA : ¬ w.heap.size = w1.heap.size := Nat.ne_of_lt l0; have nA' : ¬ w1.heap.size = w.heap.size := fun e => nA e.symm) | (go_at_call 182; go_loud (refine (HP.out _ q2 m2 (B2.set B.size _ _).keeps (B2.set B.size _ _).size (hsl.keepS (keeps_set w2 ⟨w1.heap.size, 4, none⟩ _) (fun b hb _ e => hb.2 e) (fun b hb _ => hb.1))).mono ?_); rintro e w4 ⟨v', rfl, href, hk4⟩; obtain ⟨p3, c3, hv, href⟩ := href; have B4 := (B2.set B.size 4 (.slice q2 ne.length m2)).on hk4; unfold refV at hv; rw [HL.out] at hv; subst hv) | (go_at_call 202; go_loud (refine (HF.out _ _ _ href B4.size).mono ?_); rintro e w5 ⟨p5, c5, rfl, hr5, hk5⟩; have B5 := B4.on hk5; have D0 := B5.C0; have D1 := B5.C1; have zD := B5.zC))
    (try simp only [Exit.inBlock, Exit.then])
    refine bodyPost_ret (v := .tuple #[.agg #[.slice p5 (gc dd).length c5, .int .i64 room], .int .i64 0]) ?_ rfl ?_
    · rw [results_cell_tmp rfl]
      go_simp
    · exact rto_store hr5 B5.keeps _ _

end

end Go.Proofs.YtbmalnllppamdaaGreatDoor

/-
  Small laws of the reference's walks.
-/
set_option maxRecDepth 100000
namespace Go.Proofs.YtbmalnllppamdaaGreatDoor
open Go.RowKit

theorem wrap_make {u s : Nat} (h : (u : Int) ≤ 9007199254740992) (h1 : s ≤ 4194304) : wrap64 ((u : Int) + (s : Int)) = (u : Int) + (s : Int) := IntWalk.wrap64_in _ (by omega)
theorem wrap_wrap64x (n : Int) : IntKind.i64.wrap (wrap64 n) = wrap64 n := by rw [IntKind.wrap_i64]; unfold wrap64; omega

end Go.Proofs.YtbmalnllppamdaaGreatDoor
