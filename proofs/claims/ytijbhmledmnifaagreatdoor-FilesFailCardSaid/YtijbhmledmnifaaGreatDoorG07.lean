/-
  The reference's Move: its variables in memory, and the facts of its two puts.
-/
import Derived.Test.YtijbhmledmnifaaGreatDoorG05
import Derived.Test.YtijbhmledmnifaaGreatDoorG06
import Derived.Test.YtijbhmledmnifaaGreatDoorG04
import Derived.Deep.RegionHeld3

set_option linter.unusedSimpArgs false
set_option linter.unusedVariables false

namespace Go.Proofs.YtijbhmledmnifaaGreatDoor
open Go.RowKit
set_option maxRecDepth 100000
set_option maxHeartbeats 1000000
theorem RBox.keep {F : Nat → Prop} {w w1 w2 : World} {p : Option Addr} {n c : Nat} {room : Int} (h : RBox w w1 p n c room) (k : Keeps F w1 w2) (hA : ¬ F w.heap.size) (hC : ¬ F (w.heap.size + 1)) (hF : ∀ b, F b → w.heap.size ≤ b) : RBox w w2 p n c room := by
  have l1 := lt_of_cell h.A0
  have l2 := lt_of_cell h.C0
  have := k.size
  exact ⟨(k.cell (p := ⟨w.heap.size, 0, none⟩) l1 hA).trans h.A0, (k.cell (p := ⟨w.heap.size, 1, none⟩) l1 hA).trans h.A1, (k.cell (p := ⟨w.heap.size + 1, 0, none⟩) l2 hC).trans h.C0, (k.cell (p := ⟨w.heap.size + 1, 1, none⟩) l2 hC).trans h.C1,
    fun j => (k.frozen (p := ⟨w.heap.size, j, none⟩) l1 hA).trans (h.zA j), fun j => (k.frozen (p := ⟨w.heap.size + 1, j, none⟩) l2 hC).trans (h.zC j), by have := h.size; omega, h.keeps.step k (fun b hb => .inr (hF b hb))⟩
theorem RBox.setA {w w1 : World} {p p' : Option Addr} {n n' c c' : Nat} {room room' : Int} (h : RBox w w1 p n c room) : RBox w ((w1.setCell ⟨w.heap.size, 0, none⟩ (.slice p' n' c')).setCell ⟨w.heap.size, 1, none⟩ (.int .i64 room')) p' n' c' room' := by
  have k : Keeps (fun b => b = w.heap.size) w1 ((w1.setCell ⟨w.heap.size, 0, none⟩ (.slice p' n' c')).setCell ⟨w.heap.size, 1, none⟩ (.int .i64 room')) := (keeps_set w1 ⟨w.heap.size, 0, none⟩ _).trans (keeps_set _ ⟨w.heap.size, 1, none⟩ _)
  have l2 := lt_of_cell h.C0
  have hC : ¬ w.heap.size + 1 = w.heap.size := by omega
  have := k.size
  refine ⟨?_, ?_, (k.cell (p := ⟨w.heap.size + 1, 0, none⟩) l2 hC).trans h.C0, (k.cell (p := ⟨w.heap.size + 1, 1, none⟩) l2 hC).trans h.C1, fun j => ?_, fun j => (k.frozen (p := ⟨w.heap.size + 1, j, none⟩) l2 hC).trans (h.zC j), by have := h.size; omega, h.keeps.step k (fun b hb => .inr (by omega))⟩
  · have h1 := cell_set (g := w.heap.size) (k := 0) (u := .slice p' n' c') (j := 0) h.A0
    rw [if_pos rfl] at h1
    have h2 := cell_set (g := w.heap.size) (k := 1) (u := .int .i64 room') (j := 0) h1
    rw [if_neg (by decide)] at h2
    exact h2
  · have h1 := cell_set (g := w.heap.size) (k := 0) (u := .slice p' n' c') (j := 1) h.A1
    rw [if_neg (by decide)] at h1
    have h2 := cell_set (g := w.heap.size) (k := 1) (u := .int .i64 room') (j := 1) h1
    rw [if_pos rfl] at h2
    exact h2
  · exact (frozen_set _ _ _ _).trans ((frozen_set _ _ _ _).trans (h.zA j))
theorem NBox.keep {F : Nat → Prop} {w1 w2 w3 : World} {v0 v1 v2 v3 v4 : Value} (h : NBox w1 w2 v0 v1 v2 v3 v4) (k : Keeps F w2 w3) (hN : ¬ F w1.heap.size) : NBox w1 w3 v0 v1 v2 v3 v4 := by
  have l := lt_of_cell h.N0
  exact ⟨(k.cell (p := ⟨w1.heap.size, 0, none⟩) l hN).trans h.N0, (k.cell (p := ⟨w1.heap.size, 1, none⟩) l hN).trans h.N1, (k.cell (p := ⟨w1.heap.size, 2, none⟩) l hN).trans h.N2, (k.cell (p := ⟨w1.heap.size, 3, none⟩) l hN).trans h.N3,
    (k.cell (p := ⟨w1.heap.size, 4, none⟩) l hN).trans h.N4, fun j => (k.frozen (p := ⟨w1.heap.size, j, none⟩) l hN).trans (h.zN j)⟩
theorem NBox.set4 {w1 w2 : World} {v0 v1 v2 v3 v4 : Value} (h : NBox w1 w2 v0 v1 v2 v3 v4) (v : Value) : NBox w1 (w2.setCell ⟨w1.heap.size, 4, none⟩ v) v0 v1 v2 v3 v := by
  have h0 := cell_set (g := w1.heap.size) (k := 4) (u := v) (j := 0) h.N0
  have h1 := cell_set (g := w1.heap.size) (k := 4) (u := v) (j := 1) h.N1
  have h2 := cell_set (g := w1.heap.size) (k := 4) (u := v) (j := 2) h.N2
  have h3 := cell_set (g := w1.heap.size) (k := 4) (u := v) (j := 3) h.N3
  have h4 := cell_set (g := w1.heap.size) (k := 4) (u := v) (j := 4) h.N4
  rw [if_neg (by decide)] at h0 h1 h2 h3
  rw [if_pos rfl] at h4
  exact ⟨h0, h1, h2, h3, h4, fun j => (frozen_set _ _ _ _).trans (h.zN j)⟩
theorem NBox.set5 {w1 w2 : World} {v0 v1 v2 v3 v4 : Value} (h : NBox w1 w2 v0 v1 v2 v3 v4) (u0 u1 u2 u3 u4 : Value) : NBox w1 (Go.Proofs.YtijbhmledmnifaaGreatDoor.set5 w2 w1.heap.size 0 u0 u1 u2 u3 u4) u0 u1 u2 u3 u4 := by
  have step : ∀ (W : World) (i : Nat) (u : Value) (x0 x1 x2 x3 x4 : Value), NBox w1 W x0 x1 x2 x3 x4 → NBox w1 (W.setCell ⟨w1.heap.size, i, none⟩ u) (if 0 = i then u else x0) (if 1 = i then u else x1) (if 2 = i then u else x2) (if 3 = i then u else x3) (if 4 = i then u else x4) := fun W i u x0 x1 x2 x3 x4 hW => by
    have e : ∀ j x, W.cell? ⟨w1.heap.size, j, none⟩ = some x → (W.setCell ⟨w1.heap.size, i, none⟩ u).cell? ⟨w1.heap.size, j, none⟩ = some (if j = i then u else x) := fun j x hx => by
      have := cell_set (g := w1.heap.size) (k := i) (u := u) (j := j) hx
      rw [this]
    exact ⟨e 0 _ hW.N0, e 1 _ hW.N1, e 2 _ hW.N2, e 3 _ hW.N3, e 4 _ hW.N4, fun j => (frozen_set _ _ _ _).trans (hW.zN j)⟩
  unfold Go.Proofs.YtijbhmledmnifaaGreatDoor.set5
  have s0 := step _ 0 u0 _ _ _ _ _ h
  have s1 := step _ 1 u1 _ _ _ _ _ s0
  have s2 := step _ 2 u2 _ _ _ _ _ s1
  have s3 := step _ 3 u3 _ _ _ _ _ s2
  have s4 := step _ 4 u4 _ _ _ _ _ s3
  simpa using s4
section
variable {S : Nat → Prop} {w w2 : World} {p : Option Addr} {c : Nat} {d : Nds} {room : Int} {N : Nat}
theorem RefAt.but3 (h : RefAt S w p c d) (hk : Keeps NoB w w2) (hN : w.heap.size + 2 ≤ N) : RefAt (But3 S w N) w2 p c d := h.keepS hk (fun _ _ _ h => h) (fun g hg hl => ⟨⟨hg, by omega, by omega⟩, by omega⟩)
theorem but3_new (hS : ∀ g, w.heap.size ≤ g → S g) (hN : w.heap.size + 2 ≤ N) (hsz : N < w2.heap.size) : ∀ g, w2.heap.size ≤ g → But3 S w N g := fun g hg => ⟨⟨hS g (by omega), by omega, by omega⟩, by omega⟩
theorem RefAt.of3 (h : RefAt (But3 S w N) w2 p c d) : RefAt (But2 S w) w2 p c d := h.keepS (Keeps.refl NoB _) (fun _ _ _ h => h) (fun _ hg _ => hg.1)
theorem RefAt.var {w3 : World} {F : Nat → Prop} (h : RefAt (But3 S w N) w2 p c d) (k : Keeps F w2 w3) (hF : ∀ b, F b → b = w.heap.size ∨ b = w.heap.size + 1 ∨ b = N) : RefAt (But3 S w N) w3 p c d :=
  h.keepS k (fun b hb _ e => by rcases hF b e with e | e | e <;> first | exact hb.1.2.1 e | exact hb.1.2.2 e | exact hb.2 e) (fun _ hg _ => hg)
theorem SlAt.var3 {α : Type} {E : Enc α} {q : Option Addr} {m : Nat} {l : List α} {w3 : World} {F : Nat → Prop} (h : SlAt E (But3 S w N) w2 q m l) (k : Keeps F w2 w3) (hF : ∀ b, F b → b = w.heap.size ∨ b = w.heap.size + 1 ∨ b = N) : SlAt E (But3 S w N) w3 q m l :=
  h.keepS k (fun b hb _ e => by rcases hF b e with e | e | e <;> first | exact hb.1.2.1 e | exact hb.1.2.2 e | exact hb.2 e) (fun _ hg _ => hg)
theorem put3 (h : RefAt (But3 S w N) w2 p c d) (hS : ∀ g, w.heap.size ≤ g → S g) (hN : w.heap.size + 2 ≤ N) (hsz : N < w2.heap.size) (hs : d.length ≤ 4294967296) (k : Nat) (hk : k < d.length) (l : List Ent) (q : Option Addr) (m : Nat) (hx : SlAt encEnt (But3 S w N) w2 q m l)
    (d' : Nds) (hd : setE d (k : Int) l = d') :
    Calls Tryz.prog 168 #[.agg #[.slice p d.length c, .int .i64 room], .int .i64 k, .agg #[.int .i64 (nd d (k : Int)).kind, .int .i64 (nd d (k : Int)).mode, .int .i64 (nd d (k : Int)).holds, .string (nd d (k : Int)).data, .slice q l.length m]] w2 fun e w' =>
      ∃ p' c', e = .returned (.agg #[.slice p' d.length c', .int .i64 room]) ∧ RefAt (But3 S w N) w' p' c' d' ∧ Keeps NoB w2 w' := by
  refine (r4put_any (S := But3 S w N) (room := room) h (but3_new hS hN hsz) k hk hs ((nd d (k : Int)).setEnts l) q m hx).mono ?_
  rintro e w' ⟨v', rfl, ⟨p', c', rfl, href⟩, hk'⟩
  have hl : (upd d (k : Int) ((nd d (k : Int)).setEnts l)).length = d.length := upd_length _ _ _
  refine ⟨p', c', by unfold refV; rw [hl], ?_, hk'⟩
  rw [← hd]
  exact href
end
end Go.Proofs.YtijbhmledmnifaaGreatDoor

/-
  Contracts of package disk, the eleventh part: New; a disk that a law holds.
-/
namespace Go.Proofs.YtijbhmledmnifaaGreatDoor
open Go.RowKit
set_option maxRecDepth 100000
set_option maxHeartbeats 1000000
def rootNd : Nd := ⟨2, 493, 0, ⟨#[]⟩, []⟩
def newD : Nds := [Nd.gone, rootNd]
theorem nd_new (i : Int) : nd newD i = if i = 1 then rootNd else Nd.gone := by
  unfold nd newD
  by_cases h0 : 0 ≤ i
  · rw [if_pos h0]
    by_cases h1 : i = 1
    · subst h1; rfl
    · rw [if_neg h1]
      by_cases h2 : i = 0
      · subst h2; rfl
      · rw [List.getElem?_eq_none (by simp; omega)]; rfl
  · rw [if_neg h0, if_neg (by omega)]
theorem has_new (i : Int) : has newD i ↔ i = 1 := by
  unfold has
  rw [nd_new]
  split
  · next e => exact ⟨fun _ => e, fun _ => by decide⟩
  · next e => exact ⟨fun h => absurd rfl h, fun h => absurd h e⟩
theorem cnt_new (i : Int) : cnt newD i = 0 := by simp [cnt, sumBy, newD, namesOf, Nd.gone, rootNd]
theorem used_new : used newD = 0 := by decide
theorem mass_new : mass newD = 2 := by decide
theorem count_new : count newD = 1 := by decide
theorem ents_new (i : Int) : (nd newD i).ents = [] := by rw [nd_new]; split <;> rfl
theorem noGarb_new : NoGarb newD := fun i h => by
  have := (has_new i).1 h.1
  subst this
  exact DInv.not_garb_root h
theorem inv_new : DInv newD := by
  refine ⟨by decide, by rw [nd_new]; rfl, by rw [nd_new]; rfl, fun i => ?_, fun i e h => ?_, fun i h => ?_, fun i => ⟨i, fun j hj => ?_⟩⟩
  · rw [nd_new]
    split
    · exact ⟨by decide, by decide, (fun h => by cases h), by decide, by decide, by decide, by decide, fun _ => rfl, fun _ => rfl, List.Pairwise.nil, (fun _ h => by cases h)⟩
    · exact NdOk.none
  · rw [ents_new] at h; cases h
  · have := cnt_new i
    unfold links
    split <;> omega
  · obtain ⟨_, e, h, _⟩ := hj
    rw [ents_new] at h; cases h
theorem disk_new {w : World} {B A G : Nat} {room : Int} (h0 : w.cell? ⟨A, 0, none⟩ = some (.map (some B))) (h1 : w.cell? ⟨A, 1, none⟩ = some (.int .i64 2)) (h2 : w.cell? ⟨A, 2, none⟩ = some (.int .i64 0)) (h3 : w.cell? ⟨A, 3, none⟩ = some (.int .i64 room))
    (hfz : ∀ j, w.frozen? ⟨A, j, none⟩ = false) (hm : IMap w B [(1, .pointer (some ⟨G, 0, none⟩))]) (hN : NodeAt w G (.slice none 0 0) (.slice none 0 0) rootNd 1 1) (hAB : A ≠ B) (hAG : A ≠ G) (hBG : B ≠ G) (hr : 0 ≤ room) (hr2 : room ≤ 9223372036854775807) :
    ∃ R, IsDisk R w A newD room ∧ ∀ x, x ≠ A → x ≠ B → x ≠ G → R.tag x = .none := by
  refine ⟨⟨B, [(1, .pointer (some ⟨G, 0, none⟩))], fun _ => G, fun _ => .slice none 0 0, fun _ => .slice none 0 0, fun x => if x = A then .disk else if x = B then .map else if x = G then .node 1 else .none⟩,
    ⟨⟨fun _ => 1, fun _ => 1, ⟨h0, h1, h2, h3, hfz, if_pos rfl, ?_, hm, fun i => ?_, count_new.symm, fun i hi => ?_, (fun i hi x hx => by simp [Value.ownBlock] at hx), (fun i hi x hx => by simp [Value.ownBlock] at hx), fun i hi => ?_, fun x hx => ?_⟩, inv_new, fun i hi => ?_, fun i hi => absurd hi (by unfold zp; omega),
      fun i hi => ⟨fun j hj => ?_, fun _ => rfl, fun h => by cases h⟩, by unfold smallD; rw [mass_new]; decide, fun _ _ => by decide⟩, noGarb_new, by rw [used_new]; exact hr, hr2⟩, fun x x1 x2 x3 => ?_⟩
  · show (if B = A then _ else if B = B then _ else _) = _
    rw [if_neg (fun e => hAB e.symm), if_pos rfl]
  · simp only [has_new, kvGet, List.find?_cons, List.find?_nil]
    by_cases e : i = 1
    · subst e; rfl
    · have : ¬ (1 : Int) = i := fun h => e h.symm
      simp [e, this]
  · have := (has_new i).1 hi
    subst this
    show (if G = A then _ else if G = B then _ else if G = G then _ else _) = _
    rw [if_neg (fun e => hAG e.symm), if_neg (fun e => hBG e.symm), if_pos rfl]
  · have := (has_new i).1 hi
    subst this
    rw [nd_new, if_pos rfl]
    exact hN
  · show (if x = A then _ else if x = B then _ else if x = G then _ else _) = _
    have e1 := lt_of_cell h0
    have e2 := hm.lt
    have e3 := hN.lt
    simp only at e1
    rw [if_neg (by omega), if_neg (by omega), if_neg (by omega)]
  · have := (has_new i).1 hi
    subst this
    have := cnt_new 1
    unfold links zp
    rw [this]; rfl
  · obtain ⟨_, e, h, _⟩ := hj
    rw [ents_new] at h; cases h
  · show (if x = A then _ else if x = B then _ else if x = G then _ else _) = _
    rw [if_neg x1, if_neg x2, if_neg x3]
structure Here (W : World) (R : RD) (w : World) (a : Nat) (d : Nds) (room : Int) : Prop where
  disk : IsDisk R w a d room
  keeps : Keeps NoB W w
  tag : ∀ x, x < W.heap.size → R.tag x = .none
def HereTo (W w : World) (a : Nat) (d : Nds) (room : Int) : Prop := ∃ R, Here W R w a d room
theorem Here.to {W : World} {R : RD} {w w' : World} {a : Nat} {d d' : Nds} {room : Int} (h : Here W R w a d room) (t : DiskTo R w a d' room w') : HereTo W w' a d' room := by
  obtain ⟨R', h1, h2⟩ := t
  have hs := h.keeps.size
  refine ⟨R', h1, h.keeps.step h2.keeps (fun g hg => ?_), fun x hx => by rw [h2.same x (by omega)]; exact h.tag x hx⟩
  by_cases hl : g < W.heap.size
  · exact absurd (h.tag g hl) hg
  · exact .inr (by omega)
theorem Here.on {W : World} {R : RD} {w w' : World} {a : Nat} {d : Nds} {room : Int} (h : Here W R w a d room) (k : Keeps NoB w w') : Here W R w' a d room := ⟨h.disk.keepN k, h.keeps.trans k, h.tag⟩
theorem HereTo.on {W w w' : World} {a : Nat} {d : Nds} {room : Int} (h : HereTo W w a d room) (k : Keeps NoB w w') : HereTo W w' a d room := by
  obtain ⟨R, h⟩ := h
  exact ⟨R, h.on k⟩
theorem HereTo.keeps {W w : World} {a : Nat} {d : Nds} {room : Int} (h : HereTo W w a d room) : Keeps NoB W w := by
  obtain ⟨R, h⟩ := h
  exact h.keeps
theorem IsDisk.top {R : RD} {w : World} {a : Nat} {d : Nds} {room : Int} (h : IsDisk R w a d room) : ∀ x, R.F x → x < w.heap.size := fun x hx => by
  obtain ⟨⟨lk, up, hC⟩, _, _, _⟩ := h
  by_cases hl : x < w.heap.size
  · exact hl
  · exact absurd (hC.rep.top x (by omega)) hx
theorem Here.call {W : World} {R : RD} {w wx w' : World} {a : Nat} {d d' : Nds} {room : Int} (h : Here W R w a d room) (k : Keeps NoB w wx) (t : DiskTo R wx a d' room w') :
    HereTo W w' a d' room ∧ Keeps (fun g => g < w.heap.size) wx w' := by
  refine ⟨(h.on k).to t, ?_⟩
  obtain ⟨R', _, h2⟩ := t
  exact h2.keeps.mono (fun x _ hx => h.disk.top x hx)
theorem new_end {w w5 : World} {room : Int} (hr : 0 ≤ room) (hr2 : room ≤ 9223372036854775807) (T1 T2 : TypeId) {G : Nat} (hG : G = w.heap.size + 2) (hm5 : IMap w5 w.heap.size [(1, .pointer (some ⟨G, 0, none⟩))])
    (hk5 : Keeps (fun g => g = w.heap.size) (((w.alloc (.map #[] 0)).alloc (.cells #[.map (some w.heap.size), .int .i64 2, .int .i64 0, .int .i64 room] T1)).alloc (.cells #[.int .i64 2, .int .i64 493, .int .i64 1, .int .i64 0, .slice none 0 0, .slice none 0 0, .int .i64 1] T2)) w5) :
    HereTo w w5 (w.heap.size + 1) newD room := by
  subst hG
  have s1 : (w.alloc (.map #[] 0)).heap.size = w.heap.size + 1 := by simp
  have s2 : ((w.alloc (.map #[] 0)).alloc (.cells #[.map (some w.heap.size), .int .i64 2, .int .i64 0, .int .i64 room] T1)).heap.size = w.heap.size + 2 := by simp
  have n1 := heap_alloc_new (w.alloc (.map #[] 0)) (.cells #[.map (some w.heap.size), .int .i64 2, .int .i64 0, .int .i64 room] T1)
  have n2 := heap_alloc_new ((w.alloc (.map #[] 0)).alloc (.cells #[.map (some w.heap.size), .int .i64 2, .int .i64 0, .int .i64 room] T1)) (.cells #[.int .i64 2, .int .i64 493, .int .i64 1, .int .i64 0, .slice none 0 0, .slice none 0 0, .int .i64 1] T2)
  rw [s1] at n1
  rw [s2] at n2
  have n1' := (Below.heap_alloc ((w.alloc (.map #[] 0)).alloc (.cells #[.map (some w.heap.size), .int .i64 2, .int .i64 0, .int .i64 room] T1)) (.cells #[.int .i64 2, .int .i64 493, .int .i64 1, .int .i64 0, .slice none 0 0, .slice none 0 0, .int .i64 1] T2) (w.heap.size + 1) (by omega)).trans n1
  have k0 : Keeps NoB w (((w.alloc (.map #[] 0)).alloc (.cells #[.map (some w.heap.size), .int .i64 2, .int .i64 0, .int .i64 room] T1)).alloc (.cells #[.int .i64 2, .int .i64 493, .int .i64 1, .int .i64 0, .slice none 0 0, .slice none 0 0, .int .i64 1] T2)) := (((Keeps.refl NoB w).alloc _).alloc _).alloc _
  have s3 : (((w.alloc (.map #[] 0)).alloc (.cells #[.map (some w.heap.size), .int .i64 2, .int .i64 0, .int .i64 room] T1)).alloc (.cells #[.int .i64 2, .int .i64 493, .int .i64 1, .int .i64 0, .slice none 0 0, .slice none 0 0, .int .i64 1] T2)).heap.size = w.heap.size + 3 := by simp
  have b1 := (hk5.block (w.heap.size + 1) (by omega) (by omega)).trans n1'
  have b2 := (hk5.block (w.heap.size + 2) (by omega) (by omega)).trans n2
  have hA : ∀ j v, (#[.map (some w.heap.size), .int .i64 2, .int .i64 0, .int .i64 room] : Array Value)[j]? = some v → w5.cell? ⟨w.heap.size + 1, j, none⟩ = some v := fun j v hv => by
    rw [cell_of_row w5 _ j _ T1 (0, 0) b1]; exact hv
  have hB : ∀ j v, (#[.int .i64 2, .int .i64 493, .int .i64 1, .int .i64 0, .slice none 0 0, .slice none 0 0, .int .i64 1] : Array Value)[j]? = some v → w5.cell? ⟨w.heap.size + 2, j, none⟩ = some v := fun j v hv => by
    rw [cell_of_row w5 _ j _ T2 (0, 0) b2]; exact hv
  have hN : NodeAt w5 (w.heap.size + 2) (.slice none 0 0) (.slice none 0 0) rootNd 1 1 :=
    ⟨hB 0 _ rfl, hB 1 _ rfl, hB 2 _ rfl, hB 3 _ rfl, hB 4 _ rfl, OwnB.nil _ _, ⟨hB 5 _ rfl, frozen_of_row w5 _ 5 _ T2 b2, rfl, Own.nil _ _ _ _, List.Pairwise.nil, (fun _ h => by cases h), (fun h => by simp [Value.ownBlock] at h)⟩, hB 6 _ rfl, fun j => frozen_of_row w5 _ j _ T2 b2⟩
  obtain ⟨R, hD, hT⟩ := disk_new (A := w.heap.size + 1) (hA 0 _ rfl) (hA 1 _ rfl) (hA 2 _ rfl) (hA 3 _ rfl) (fun j => frozen_of_row w5 _ j _ T1 b1) hm5 hN (by omega) (by omega) (by omega) hr hr2
  exact ⟨R, hD, k0.step hk5 (fun g hg => .inr (by omega)), fun x hx => hT x (by omega) (by omega) (by omega)⟩
theorem new_any (w : World) (room : Int) (hr2 : room ≤ 9223372036854775807) :
    Calls Tryz.prog 99 #[.int .i64 room] w fun e w' => if room < 0 then e = .returned (.tuple #[.pointer none, .int .i64 10]) ∧ w = w' else
      ∃ a, e = .returned (.tuple #[.pointer (some ⟨a, 0, none⟩), .int .i64 0]) ∧ HereTo w w' a newD room := by
  by_cases hr : room < 0
  · simp only [if_pos hr]
    go_enter Tryz.func99, Tryz.ntmps99
    go_wp2
    go_ret2
    exact ⟨rfl, rfl⟩
  · simp only [if_neg hr]
    have hmk : ∀ wx : World, (Instr.makeMap 172 none).run Tryz.prog wx = .ok (.map (some wx.heap.size)) (wx.alloc (.map #[] 0)) := fun _ => rfl
    go_enter Tryz.func99, Tryz.ntmps99
    go_wp2_with (at_mapUpdate; refine wpl_mapUpdate rfl (.tmp 14) (.const (.int .i64 1)) (.tmp 16) _ rfl Tryz.underlying172 Tryz.underlying3 rfl (((IMap.made w).keep ((Keeps.refl NoB _).alloc _) (fun h => h)).keep ((Keeps.refl NoB _).alloc _) (fun h => h)) rfl rfl rfl ?_; intro w5 hm5 hk5)
    go_ret2
    exact ⟨_, rfl, new_end hr hr2 _ _ (by simp) hm5 hk5⟩
end Go.Proofs.YtijbhmledmnifaaGreatDoor

/-
  Small laws of the reference's walks.
-/
set_option maxRecDepth 100000
namespace Go.Proofs.YtijbhmledmnifaaGreatDoor
open Go.RowKit
theorem wrap_make {u s : Nat} (h : (u : Int) ≤ 9007199254740992) (h1 : s ≤ 4194304) : wrap64 ((u : Int) + (s : Int)) = (u : Int) + (s : Int) := IntWalk.wrap64_in _ (by omega)
theorem wrap_wrap64x (n : Int) : IntKind.i64.wrap (wrap64 n) = wrap64 n := by rw [IntKind.wrap_i64]; unfold wrap64; omega
end Go.Proofs.YtijbhmledmnifaaGreatDoor

/-
  Contracts of the reference for layer 4: New, Make.
-/
namespace Go.Proofs.YtijbhmledmnifaaGreatDoor
open Go.RowKit
set_option maxRecDepth 100000
set_option maxHeartbeats 2000000
theorem results_cell_tmp2 {fn : Func} {p u t : Tmp} {ty : TypeId} (h : fn.results = #[.cell p ty, .tmp u, .tmp t]) (tmps : Array Value) (P : Program) (w : World) :
    (results fn tmps).run P w =
      ((asAddr (tmps.getD p undef)).run P w).andThen fun a w₁ => ((loadVar ty a).run P w₁).andThen fun v w₂ => .ok (.tuple #[v, tmps.getD u undef, tmps.getD t undef]) w₂ := by
  simp only [results, h]
  simp [Sem.run_bind, Result.andThen]
def MTo (S : Nat → Prop) (w : World) (d' : Nds) (room id err : Int) (e : Ending) (w' : World) : Prop :=
  ∃ p' c', e = .returned (.tuple #[refV p' c' d' room, .int .i64 id, .int .i64 err]) ∧ RefAt S w' p' c' d' ∧ Keeps NoB w w'
section
variable {S : Nat → Prop} {w : World} {p : Option Addr} {c : Nat} {d : Nds} {room : Int}
theorem mto_store {w1 : World} {p' : Option Addr} {c' : Nat} {d' : Nds} {id err : Int} (h : RefAt (But2 S w) w1 p' c' d') (k : Keeps NoB w w1) (v0 v1 : Value) :
    MTo S w d' room id err (.returned (.tuple #[refV p' c' d' room, .int .i64 id, .int .i64 err])) ((w1.setCell ⟨w.heap.size + 1, 0, none⟩ v0).setCell ⟨w.heap.size + 1, 1, none⟩ v1) := by
  obtain ⟨p2, c2, e, h1, h2⟩ := rto_store (room := room) (err := err) h k v0 v1
  cases e
  exact ⟨_, _, rfl, h1, h2⟩
theorem r4new_any (w : World) (room : Int) (hS : ∀ g, w.heap.size ≤ g → S g) :
    Calls Tryz.prog 45 #[.int .i64 room] w fun e w' => ∃ p c, e = .returned (refV p c newD room) ∧ RefAt S w' p c newD ∧ Keeps NoB w w' := by
  go_enter Tryz.func45, Tryz.ntmps45
  go_wp2
  refine bodyPost_ret (v := refV (some ⟨w.heap.size + 1, 0, none⟩) 2 newD room) ?_ rfl ⟨_, _, rfl, ⟨[⟨0, 0, 0, ⟨#[]⟩, none, 0, 0⟩, ⟨2, 493, 0, ⟨#[]⟩, none, 0, 0⟩], rfl, ?_, fun i r hi => ?_⟩, ((Keeps.refl _ _).alloc _).alloc _⟩
  · rw [results_cell_one rfl]
    go_simp
    rfl
  · have h := own_lit (E := encRow) (e := 80) (S := S) (w := w.alloc (.cells #[.slice (some ⟨w.heap.size + 1, 0, none⟩) 2 2, .int .i64 room] 35)) [(⟨0, 0, 0, ⟨#[]⟩, none, 0, 0⟩ : RRow), ⟨2, 493, 0, ⟨#[]⟩, none, 0, 0⟩] #[.int .i64 0, .int .i64 0, .int .i64 0, .string ⟨#[]⟩, .slice none 0 0, .int .i64 2, .int .i64 493, .int .i64 0, .string ⟨#[]⟩, .slice none 0 0] rfl [(⟨0, 0, 0, ⟨#[]⟩, none, 0, 0⟩ : RRow), ⟨2, 493, 0, ⟨#[]⟩, none, 0, 0⟩].length rfl (hS _ (by simp)) (by decide)
    have h2 := h.sl.at'
    have e : (w.alloc (.cells #[.slice (some ⟨w.heap.size + 1, 0, none⟩) 2 2, .int .i64 room] 35)).heap.size = w.heap.size + 1 := by simp
    rw [e] at h2
    exact h2
  · match i, hi with
    | 0, hi => cases hi; exact ⟨rfl, rfl, rfl, rfl, rfl, (Own.nil encEnt 83 S _).sl.at'⟩
    | 1, hi => cases hi; exact ⟨rfl, rfl, rfl, rfl, rfl, (Own.nil encEnt 83 S _).sl.at'⟩
    | n + 2, hi => simp at hi
theorem r4make_err (h : RefAt S w p c d) (hI : DInv d) (hs : smallD d) (kind m : Int) (s : ByteArray) (hsz : s.size ≤ 4294967296) (he : makeErr d room kind m s ≠ 0) :
    Calls Tryz.prog 166 #[refV p c d room, .int .i64 kind, .int .i64 m, .string s] w (MTo S w d room 0 (makeErr d room kind m s)) := by
  have hcap := h.cap
  have hmax := h.max
  unfold maxLen at hmax
  have HCo := Lib.hid (fun (w1 : World) (hk : Keeps NoB w w1) => r4count_any (room := room) (h.keepN hk) hI.zero (by have := hI.two; omega) hs)
  have HUs := Lib.hid (fun (w1 : World) (hk : Keeps NoB w w1) => r4used_any (room := room) (h.keepN hk) hI.zero (by have := hI.two; omega) hI hs)
  have H0 := Lib.hid (fun (w1 : World) (hk : Keeps NoB w w1) => h.keepN hk)
  have Hh := Lib.hid (fun (w1 : World) (hk : Keeps NoB w w1) => h.but2 hk)
  have B := rbox (w := w) (Keeps.refl NoB ((w.alloc (.cells #[.slice p d.length c, .int .i64 room] 35)).alloc (.cells #[.slice none 0 0, .int .i64 0] 35)))
  have hul := used_le2 hI hs
  unfold makeErr at he ⊢
  clear h hI hs
  unfold refV at *
  by_cases c1 : kind < 1
  · rw [if_pos c1]
    clear he
    go_enter Tryz.func166, Tryz.ntmps166
    go_wp2
    (try simp only [Exit.inBlock, Exit.then])
    refine bodyPost_ret (v := .tuple #[.agg #[.slice p d.length c, .int .i64 room], .int .i64 0, .int .i64 43]) ?_ rfl ?_
    · rw [results_cell_tmp2 rfl]
      go_simp
    · exact ⟨_, _, rfl, H0.out _ (((Keeps.refl _ _).alloc _).alloc _), ((Keeps.refl _ _).alloc _).alloc _⟩
  rw [if_neg c1] at he ⊢
  by_cases c2 : 3 < kind
  · rw [if_pos c2]
    clear he
    go_enter Tryz.func166, Tryz.ntmps166
    go_wp2
    (try simp only [Exit.inBlock, Exit.then])
    refine bodyPost_ret (v := .tuple #[.agg #[.slice p d.length c, .int .i64 room], .int .i64 0, .int .i64 43]) ?_ rfl ?_
    · rw [results_cell_tmp2 rfl]
      go_simp
    · exact ⟨_, _, rfl, H0.out _ (((Keeps.refl _ _).alloc _).alloc _), ((Keeps.refl _ _).alloc _).alloc _⟩
  rw [if_neg c2] at he ⊢
  by_cases c3 : kind = 2 ∧ s.size ≠ 0
  · rw [if_pos c3]
    obtain ⟨rfl, c3⟩ := c3
    have hne : (s.toList == []) = false := beq_false_of_ne (fun e => c3 ((toList_nil s).1 e))
    clear he c3
    go_enter Tryz.func166, Tryz.ntmps166
    go_wp2
    (try simp only [Exit.inBlock, Exit.then])
    refine bodyPost_ret (v := .tuple #[.agg #[.slice p d.length c, .int .i64 room], .int .i64 0, .int .i64 43]) ?_ rfl ?_
    · rw [results_cell_tmp2 rfl]
      go_simp
    · exact ⟨_, _, rfl, H0.out _ (((Keeps.refl _ _).alloc _).alloc _), ((Keeps.refl _ _).alloc _).alloc _⟩
  rw [if_neg c3] at he ⊢
  have k2 : kind ≠ 2 ∨ (kind = 2 ∧ s = ⟨#[]⟩) := by
    by_cases e : kind = 2
    · refine .inr ⟨e, ByteArray.ext (Array.eq_empty_of_size_eq_zero ?_)⟩
      have : ¬ s.size ≠ 0 := fun h => c3 ⟨e, h⟩
      have := Classical.not_not.1 this
      exact this
    · exact .inl e
  clear c3
  by_cases c4 : okMode m = false
  · rw [if_pos c4]
    have hm : m < 0 ∨ (¬ m < 0 ∧ 4095 < m) := by
      unfold okMode at c4
      simp at c4
      omega
    clear he c4
    rcases k2 with k2 | ⟨rfl, rfl⟩ <;> rcases hm with hm | ⟨hm, hm2⟩
    all_goals
      go_enter Tryz.func166, Tryz.ntmps166
      go_wp2
      (try simp only [Exit.inBlock, Exit.then])
      refine bodyPost_ret (v := .tuple #[.agg #[.slice p d.length c, .int .i64 room], .int .i64 0, .int .i64 10]) ?_ rfl ?_
      · rw [results_cell_tmp2 rfl]
        go_simp
      · exact ⟨_, _, rfl, H0.out _ (((Keeps.refl _ _).alloc _).alloc _), ((Keeps.refl _ _).alloc _).alloc _⟩
  rw [if_neg c4] at he ⊢
  have hm : ¬ m < 0 ∧ ¬ 4095 < m := by
    have : okMode m = true := by simpa using c4
    unfold okMode at this
    simp at this
    omega
  obtain ⟨hm, hm2⟩ := hm
  clear c4
  by_cases c5 : 4194304 < s.size
  · rw [if_pos c5]
    have c5' : (4194304 : Int) < (s.size : Int) := by omega
    rcases k2 with k2 | ⟨rfl, rfl⟩
    · clear he c5
      go_enter Tryz.func166, Tryz.ntmps166
      go_wp2
      (try simp only [Exit.inBlock, Exit.then])
      refine bodyPost_ret (v := .tuple #[.agg #[.slice p d.length c, .int .i64 room], .int .i64 0, .int .i64 18]) ?_ rfl ?_
      · rw [results_cell_tmp2 rfl]
        go_simp
      · exact ⟨_, _, rfl, H0.out _ (((Keeps.refl _ _).alloc _).alloc _), ((Keeps.refl _ _).alloc _).alloc _⟩
    · exact absurd c5 (by decide)
  rw [if_neg c5] at he ⊢
  have c5' : ¬ ((4194304 : Int) < (s.size : Int)) := by omega
  have hsn : s.size ≤ 4194304 := by omega
  clear c5
  by_cases c6 : 65536 ≤ count d
  · rw [if_pos c6]
    have c6' : (65536 : Int) ≤ (count d : Int) := by omega
    clear he c6 hul
    generalize (count d : Int) = cd at *
    rcases k2 with k2 | ⟨rfl, rfl⟩
    all_goals
      go_enter Tryz.func166, Tryz.ntmps166
      go_wp2_with (go_at_call 227; refine (HCo.out _ B.keeps).mono ?_; rintro e w1 ⟨rfl, hk1⟩; (try clear A0); (try clear A1); (try clear C0); (try clear C1); (try clear zA); (try clear zC); (try clear l0); (try clear l1); (try clear R0); (try clear R1); (try clear R2); (try clear R3); (try clear R4); (try clear hgl); (try clear Q0); (try clear T4); replace B := B.on hk1; clear hk1; have A0 := B.A0; have A1 := B.A1; have C0 := B.C0; have C1 := B.C1; have zA := B.zA; have zC := B.zC; have l0 : w.heap.size < w1.heap.size := Nat.lt_of_lt_of_le (by simp) B.size; have l1 : w.heap.size + 1 < w1.heap.size := B.size)
      (try simp only [Exit.inBlock, Exit.then])
      refine bodyPost_ret (v := .tuple #[.agg #[.slice p d.length c, .int .i64 room], .int .i64 0, .int .i64 24]) ?_ rfl ?_
      · rw [results_cell_tmp2 rfl]
        go_simp
      · exact mto_store (Hh.out _ B.keeps) B.keeps _ _
  rw [if_neg c6] at he ⊢
  have c6' : ¬ ((65536 : Int) ≤ (count d : Int)) := by omega
  have c6'' : ((65536 : Int) ≤ (count d : Int)) = False := by simp; omega
  clear c6
  by_cases c7 : room - used d < s.size
  · rw [if_pos c7]
    have hr : room < (used d : Int) + (s.size : Int) := by omega
    have hwr := wrap_make hul hsn
    clear he c7 hul
    generalize (count d : Int) = cd at *
    generalize (used d : Int) = us at *
    have hwi : IntKind.i64.wrap (us + (s.size : Int)) = us + (s.size : Int) := by rw [← hwr]; exact wrap_wrap64x _
    have hz0 : (s.size : Int) = 0 → room < IntKind.i64.wrap us := fun e => by rw [e, Int.add_zero] at hr hwi; rw [hwi]; exact hr
    rcases k2 with k2 | ⟨rfl, rfl⟩
    all_goals
      go_enter Tryz.func166, Tryz.ntmps166
      go_upto_region 10 with (go_at_call 227; refine (HCo.out _ B.keeps).mono ?_; rintro e w1 ⟨rfl, hk1⟩; (try clear A0); (try clear A1); (try clear C0); (try clear C1); (try clear zA); (try clear zC); (try clear l0); (try clear l1); (try clear R0); (try clear R1); (try clear R2); (try clear R3); (try clear R4); (try clear hgl); (try clear Q0); (try clear T4); replace B := B.on hk1; clear hk1; have A0 := B.A0; have A1 := B.A1; have C0 := B.C0; have C1 := B.C1; have zA := B.zA; have zC := B.zC; have l0 : w.heap.size < w1.heap.size := Nat.lt_of_lt_of_le (by simp) B.size; have l1 : w.heap.size + 1 < w1.heap.size := B.size)
      go_cut [46] from 39 to 46 (fun x wx => x = .bool true ∧ Keeps NoB w1 wx)
      case first =>
        have kr : Keeps NoB w1 w1 := Keeps.refl NoB w1
        have krd : Keeps NoB w1 w1.drew := kr.drew
        have Bd := B.on krd
        go_region_held3 (fun wz => wz.cell? ⟨w.heap.size, 0, none⟩ = some (.slice p d.length c) ∧ wz.cell? ⟨w.heap.size, 1, none⟩ = some (.int .i64 room) ∧ Keeps NoB w1 wz) (first | exact ⟨B.A0, B.A1, kr⟩ | exact ⟨Bd.A0, Bd.A1, krd⟩ | exact ⟨B6.A0, B6.A1, hk26⟩ | exact ⟨B6d.A0, B6d.A1, hk26d⟩)
          (first | (go_at_call 37; refine (HUs.out _ (B.keeps.trans (by assumption))).mono ?_; rintro e w6 ⟨rfl, hk6⟩; have hk26 : Keeps NoB w1 w6 := Keeps.trans (by assumption) hk6; have B6 := B.on hk26; have hk26d := hk26.drew; have B6d := B.on hk26d; have A06 := B6.A0; have A16 := B6.A1))
        all_goals (go_wp2_with fail; go_meet; exact ⟨by first | (simp [hwi, hr]; done) | (simp [hz0 rfl]; done), by first | exact hk26 | exact hk26.drew⟩)
      case rest =>
        obtain ⟨rfl, hk26⟩ := hcut
        replace B := B.on hk26
        (try clear A0); (try clear A1); (try clear C0); (try clear C1); (try clear zA); (try clear zC); (try clear l0); (try clear l1); (try clear R0); (try clear R1); (try clear R2); (try clear R3); (try clear R4); (try clear hgl); (try clear Q0); (try clear T4)
        have A0 := B.A0
        have A1 := B.A1
        have C0 := B.C0
        have C1 := B.C1
        have zA := B.zA
        have zC := B.zC
        go_wp2_with fail
        (try simp only [Exit.inBlock, Exit.then])
        refine bodyPost_ret (v := .tuple #[.agg #[.slice p d.length c, .int .i64 room], .int .i64 0, .int .i64 20]) ?_ rfl ?_
        · rw [results_cell_tmp2 rfl]
          go_simp
        · exact mto_store (Hh.out _ B.keeps) B.keeps _ _
  · rw [if_neg c7] at he
    exact absurd rfl he
theorem make_store {w4 : World} {e : TypeId} {g4 cp4 : Nat} {rows : List RRow} {kind m : Int} {s : ByteArray} (hk : Keeps NoB w w4) (hS : ∀ g, w.heap.size ≤ g → S g)
    (ho : Own encRow e (fun g => w.heap.size + 2 ≤ g) w4 (.slice (some ⟨g4, 0, none⟩) (rows ++ [(⟨kind, m, 1, s, none, 0, 0⟩ : RRow)]).length cp4) (rows ++ [⟨kind, m, 1, s, none, 0, 0⟩]))
    (hr1 : rows.length = d.length) (hr3 : ∀ (i : Nat) (r : RRow), rows[i]? = some r → RowIs S w r (nd d i)) (hd : d.length ≤ 4294967296) (hg : w.heap.size + 2 ≤ g4) (v0 v1 v2 : Value) :
    MTo S w (d ++ [newNd kind m s]) room d.length 0 (.returned (.tuple #[.agg #[.slice (some ⟨g4, 0, none⟩) (rows.length + 1) cp4, .int .i64 room], .int .i64 (wrap64 (rows.length : Int)), .int .i64 0]))
      (((w4.setCell ⟨w.heap.size, 0, none⟩ v0).setCell ⟨w.heap.size + 1, 0, none⟩ v1).setCell ⟨w.heap.size + 1, 1, none⟩ v2) := by
  have kk : Keeps (fun b => b = w.heap.size ∨ b = w.heap.size + 1) w4 (((w4.setCell ⟨w.heap.size, 0, none⟩ v0).setCell ⟨w.heap.size + 1, 0, none⟩ v1).setCell ⟨w.heap.size + 1, 1, none⟩ v2) :=
    (((keeps_set w4 ⟨w.heap.size, 0, none⟩ v0).mono (fun b _ hb => .inl hb)).trans ((keeps_set _ ⟨w.heap.size + 1, 0, none⟩ v1).mono (fun b _ hb => .inr hb))).trans ((keeps_set _ ⟨w.heap.size + 1, 1, none⟩ v2).mono (fun b _ hb => .inr hb))
  have kF := hk.step kk (fun b hb => .inr (by omega))
  have hwl : wrap64 (rows.length : Int) = (d.length : Int) := by rw [hr1]; exact IntWalk.wrap64_in _ (by omega)
  refine ⟨some ⟨g4, 0, none⟩, cp4, ?_, ⟨rows ++ [⟨kind, m, 1, s, none, 0, 0⟩], by simp [hr1], ?_, fun i r hi => ?_⟩, kF⟩
  · unfold refV
    rw [hwl, hr1]
    simp
  · have h1 := ho.keep kk (fun b hb e => by
      simp [Value.ownBlock] at hb
      subst hb
      omega)
    exact (h1.sl.mono (fun b hb _ => hS b (by omega))).at'
  · rw [nd_append]
    by_cases e : i < rows.length
    · rw [List.getElem?_append_left e] at hi
      rw [if_neg (by omega)]
      exact (hr3 i r hi).keepS kF (fun _ _ _ h => h) (fun _ h _ => h)
    · rw [List.getElem?_append_right (by omega)] at hi
      have hi0 : i - rows.length = 0 := by
        by_cases h0 : i - rows.length = 0
        · exact h0
        · rw [List.getElem?_eq_none (by simp; omega)] at hi; cases hi
      rw [hi0] at hi
      cases hi
      rw [if_pos (by omega)]
      exact ⟨rfl, rfl, rfl, rfl, rfl, (Own.nil encEnt 83 S _).sl.at'⟩
theorem r4make_ok (h : RefAt S w p c d) (hS : ∀ g, w.heap.size ≤ g → S g) (hI : DInv d) (hs : smallD d) (kind m : Int) (s : ByteArray) (he : makeErr d room kind m s = 0) :
    Calls Tryz.prog 166 #[refV p c d room, .int .i64 kind, .int .i64 m, .string s] w (MTo S w (d ++ [newNd kind m s]) room d.length 0) := by
  have hcap := h.cap
  have hmax := h.max
  unfold maxLen at hmax
  have HCo := Lib.hid (fun (w1 : World) (hk : Keeps NoB w w1) => r4count_any (room := room) (h.keepN hk) hI.zero (by have := hI.two; omega) hs)
  have HUs := Lib.hid (fun (w1 : World) (hk : Keeps NoB w w1) => r4used_any (room := room) (h.keepN hk) hI.zero (by have := hI.two; omega) hI hs)
  have H0 := Lib.hid (fun (w1 : World) (hk : Keeps NoB w w1) => h.keepN hk)
  have B := rbox (w := w) (Keeps.refl NoB ((w.alloc (.cells #[.slice p d.length c, .int .i64 room] 35)).alloc (.cells #[.slice none 0 0, .int .i64 0] 35)))
  have hul := used_le2 hI hs
  have hml := mass_ge d
  have hdl : d.length ≤ 4294967296 := by unfold smallD at hs; omega
  unfold makeErr at he
  have htwo := hI.two
  clear hI hs hml
  split at he; · cases he
  split at he; · cases he
  split at he; · cases he
  split at he; · cases he
  split at he; · cases he
  split at he; · cases he
  split at he; · cases he
  next c1 c2 c3 c4 c5 c6 c7 =>
  have k2 : kind ≠ 2 ∨ (kind = 2 ∧ s = ⟨#[]⟩) := by
    by_cases e : kind = 2
    · refine .inr ⟨e, ByteArray.ext (Array.eq_empty_of_size_eq_zero ?_)⟩
      have : ¬ s.size ≠ 0 := fun h => c3 ⟨e, h⟩
      have := Classical.not_not.1 this
      exact this
    · exact .inl e
  have hm : ¬ m < 0 ∧ ¬ 4095 < m := by
    have : okMode m = true := by simpa using c4
    unfold okMode at this
    simp at this
    omega
  obtain ⟨hm, hm2⟩ := hm
  have c5' : ¬ ((4194304 : Int) < (s.size : Int)) := by omega
  have hsn : s.size ≤ 4194304 := by omega
  have c6' : ¬ ((65536 : Int) ≤ (count d : Int)) := by omega
  have c6'' : ((65536 : Int) ≤ (count d : Int)) = False := by simp; omega
  have hr : ¬ room < (used d : Int) + (s.size : Int) := by omega
  have hwr := wrap_make hul hsn
  obtain ⟨rows, hr1, hr2, hr3⟩ := h.rows
  have HSl := Lib.hid (fun (wx : World) (hk : Keeps NoB w wx) => (⟨p, c, by rw [hr1], hr2.keepN hk⟩ : Sl encRow S wx (.slice p d.length c) rows))
  have HR3 := Lib.hid hr3
  have HR1 := Lib.hid hr1
  have hwl : wrap64 (((d.length : Int) + 1) - 1) = (d.length : Int) := by rw [IntWalk.wrap64_in _ (by omega)]; omega
  unfold refV at *
  clear he c3 c4 c5 c6 c7 hul hr1 hr2 hr3 h
  generalize (count d : Int) = cd at *
  generalize (used d : Int) = us at *
  have hwi : IntKind.i64.wrap (us + (s.size : Int)) = us + (s.size : Int) := by rw [← hwr]; exact wrap_wrap64x _
  have hz0 : (s.size : Int) = 0 → ¬ room < IntKind.i64.wrap us := fun e => by rw [e, Int.add_zero] at hr hwi; rw [hwi]; exact hr
  rcases k2 with k2 | ⟨rfl, rfl⟩
  case inl =>
      go_enter Tryz.func166, Tryz.ntmps166
      go_upto_region 10 with (go_at_call 227; refine (HCo.out _ B.keeps).mono ?_; rintro e w1 ⟨rfl, hk1⟩; (try clear A0); (try clear A1); (try clear C0); (try clear C1); (try clear zA); (try clear zC); (try clear l0); (try clear l1); (try clear R0); (try clear R1); (try clear R2); (try clear R3); (try clear R4); (try clear hgl); (try clear Q0); (try clear T4); replace B := B.on hk1; clear hk1; have A0 := B.A0; have A1 := B.A1; have C0 := B.C0; have C1 := B.C1; have zA := B.zA; have zC := B.zC; have l0 : w.heap.size < w1.heap.size := Nat.lt_of_lt_of_le (by simp) B.size; have l1 : w.heap.size + 1 < w1.heap.size := B.size)
      go_cut [46] from 39 to 46 (fun x wx => x = .bool false ∧ Keeps NoB w1 wx)
      case first =>
        have kr : Keeps NoB w1 w1 := Keeps.refl NoB w1
        have krd : Keeps NoB w1 w1.drew := kr.drew
        have Bd := B.on krd
        go_region_held3 (fun wz => wz.cell? ⟨w.heap.size, 0, none⟩ = some (.slice p d.length c) ∧ wz.cell? ⟨w.heap.size, 1, none⟩ = some (.int .i64 room) ∧ Keeps NoB w1 wz) (first | exact ⟨B.A0, B.A1, kr⟩ | exact ⟨Bd.A0, Bd.A1, krd⟩ | exact ⟨B6.A0, B6.A1, hk26⟩ | exact ⟨B6d.A0, B6d.A1, hk26d⟩)
          (first | (go_at_call 37; refine (HUs.out _ (B.keeps.trans (by assumption))).mono ?_; rintro e w6 ⟨rfl, hk6⟩; have hk26 : Keeps NoB w1 w6 := Keeps.trans (by assumption) hk6; have B6 := B.on hk26; have hk26d := hk26.drew; have B6d := B.on hk26d; have A06 := B6.A0; have A16 := B6.A1))
        all_goals (go_wp2_with fail; go_meet; exact ⟨by first | (simp [hwi, hr]; done) | (simp [hz0 rfl]; done), by first | exact hk26 | exact hk26.drew⟩)
      case rest =>
        obtain ⟨rfl, hk26⟩ := hcut
        replace B := B.on hk26
        (try clear A0); (try clear A1); (try clear C0); (try clear C1); (try clear zA); (try clear zC); (try clear l0); (try clear l1); (try clear R0); (try clear R1); (try clear R2); (try clear R3); (try clear R4); (try clear hgl); (try clear Q0); (try clear T4)
        have A0 := B.A0
        have A1 := B.A1
        have C0 := B.C0
        have C1 := B.C1
        have zA := B.zA
        have zC := B.zC
        go_wp2_with (first | (at_builtin; go_loud (refine wpl_append rfl (.tmp 51) (.tmp 53) rfl tRow (Own.nil encRow 80 (fun g => w.heap.size + 2 ≤ g) _) (HSl.out _ B.keeps) rfl rfl B.size (by have := HR1.out; simp [maxLen]; omega) (by have := HR1.out; simp; omega) ?_); intro v3 w3 ho3 hk3 hf3; rw [List.nil_append] at ho3; have k3 := hk3.mono (G := NoB) (fun _ _ h => by cases h); have hf3' : ∀ g, v3.ownBlock = some g → wc.heap.size ≤ g := (fun g hg => (hf3 g hg).resolve_left (fun h => by cases h)); have Bz := B.size; have B3 := B.on k3; obtain ⟨g3, cp3, cur3, rfl, hS3, hg3, hcp3, hcm3, hsz3, htk3⟩ := ho3.row (by have := HR1.out; omega); clear hsz3 htk3; (try clear A0); (try clear A1); (try clear C0); (try clear C1); (try clear zA); (try clear zC); (try clear l0); (try clear l1); (try clear R0); (try clear R1); (try clear R2); (try clear R3); (try clear R4); (try clear hgl); (try clear Q0); (try clear T4); have A0 := B3.A0; have A1 := B3.A1; have C0 := B3.C0; have C1 := B3.C1; have zA := B3.zA; have zC := B3.zC) | (at_builtin; go_loud (refine wpl_append rfl (.tmp 55) (.tmp 60) rfl tRow (ho3.keep ((Keeps.refl NoB _).alloc _) (fun _ _ h => h)) (own_lit (S := fun _ => True) [(⟨kind, m, 1, s, none, 0, 0⟩ : RRow)] #[.int .i64 kind, .int .i64 m, .int .i64 1, .string s, .slice none 0 0] rfl 1 rfl trivial (by decide)).sl rfl rfl (by have := B3.size; simp; omega) (by have := HR1.out; simp [maxLen]; omega) (by have := HR1.out; simp; omega) ?_); intro v4 w4 ho4 hk4 hf4; have B4 := (B3.on ((Keeps.refl NoB _).alloc _)).keep hk4 (fun h => by have := hf3' _ h; omega) (fun h => by have := hf3' _ h; omega) (fun b h => by have := hf3' _ h; omega); obtain ⟨g4, cp4, cur4, rfl, hS4, hg4, hcp4, hcm4, hsz4, htk4⟩ := ho4.row (by simp); clear hsz4 htk4 hg4; (try clear A0); (try clear A1); (try clear C0); (try clear C1); (try clear zA); (try clear zC); (try clear l0); (try clear l1); (try clear R0); (try clear R1); (try clear R2); (try clear R3); (try clear R4); (try clear hgl); (try clear Q0); (try clear T4); have A0 := B4.A0; have A1 := B4.A1; have C0 := B4.C0; have C1 := B4.C1; have zA := B4.zA; have zC := B4.zC))
        (try simp only [Exit.inBlock, Exit.then])
        refine bodyPost_ret (v := .tuple #[.agg #[.slice (some ⟨g4, 0, none⟩) (rows.length + 1) cp4, .int .i64 room], .int .i64 (wrap64 (rows.length : Int)), .int .i64 0]) ?_ rfl ?_
        · rw [results_cell_tmp2 rfl]
          go_simp
        · exact make_store B4.keeps hS ho4 HR1.out HR3.out hdl hS4 _ _ _
  case inr =>
      go_enter Tryz.func166, Tryz.ntmps166
      go_upto_region 10 with (go_at_call 227; refine (HCo.out _ B.keeps).mono ?_; rintro e w1 ⟨rfl, hk1⟩; (try clear A0); (try clear A1); (try clear C0); (try clear C1); (try clear zA); (try clear zC); (try clear l0); (try clear l1); (try clear R0); (try clear R1); (try clear R2); (try clear R3); (try clear R4); (try clear hgl); (try clear Q0); (try clear T4); replace B := B.on hk1; clear hk1; have A0 := B.A0; have A1 := B.A1; have C0 := B.C0; have C1 := B.C1; have zA := B.zA; have zC := B.zC; have l0 : w.heap.size < w1.heap.size := Nat.lt_of_lt_of_le (by simp) B.size; have l1 : w.heap.size + 1 < w1.heap.size := B.size)
      go_cut [46] from 39 to 46 (fun x wx => x = .bool false ∧ Keeps NoB w1 wx)
      case first =>
        have kr : Keeps NoB w1 w1 := Keeps.refl NoB w1
        have krd : Keeps NoB w1 w1.drew := kr.drew
        have Bd := B.on krd
        go_region_held3 (fun wz => wz.cell? ⟨w.heap.size, 0, none⟩ = some (.slice p d.length c) ∧ wz.cell? ⟨w.heap.size, 1, none⟩ = some (.int .i64 room) ∧ Keeps NoB w1 wz) (first | exact ⟨B.A0, B.A1, kr⟩ | exact ⟨Bd.A0, Bd.A1, krd⟩ | exact ⟨B6.A0, B6.A1, hk26⟩ | exact ⟨B6d.A0, B6d.A1, hk26d⟩)
          (first | (go_at_call 37; refine (HUs.out _ (B.keeps.trans (by assumption))).mono ?_; rintro e w6 ⟨rfl, hk6⟩; have hk26 : Keeps NoB w1 w6 := Keeps.trans (by assumption) hk6; have B6 := B.on hk26; have hk26d := hk26.drew; have B6d := B.on hk26d; have A06 := B6.A0; have A16 := B6.A1))
        all_goals (go_wp2_with fail; go_meet; exact ⟨by first | (simp [hwi, hr]; done) | (simp [hz0 rfl]; done), by first | exact hk26 | exact hk26.drew⟩)
      case rest =>
        obtain ⟨rfl, hk26⟩ := hcut
        replace B := B.on hk26
        (try clear A0); (try clear A1); (try clear C0); (try clear C1); (try clear zA); (try clear zC); (try clear l0); (try clear l1); (try clear R0); (try clear R1); (try clear R2); (try clear R3); (try clear R4); (try clear hgl); (try clear Q0); (try clear T4)
        have A0 := B.A0
        have A1 := B.A1
        have C0 := B.C0
        have C1 := B.C1
        have zA := B.zA
        have zC := B.zC
        go_wp2_with (first | (at_builtin; go_loud (refine wpl_append rfl (.tmp 51) (.tmp 53) rfl tRow (Own.nil encRow 80 (fun g => w.heap.size + 2 ≤ g) _) (HSl.out _ B.keeps) rfl rfl B.size (by have := HR1.out; simp [maxLen]; omega) (by have := HR1.out; simp; omega) ?_); intro v3 w3 ho3 hk3 hf3; rw [List.nil_append] at ho3; have k3 := hk3.mono (G := NoB) (fun _ _ h => by cases h); have hf3' : ∀ g, v3.ownBlock = some g → wc.heap.size ≤ g := (fun g hg => (hf3 g hg).resolve_left (fun h => by cases h)); have Bz := B.size; have B3 := B.on k3; obtain ⟨g3, cp3, cur3, rfl, hS3, hg3, hcp3, hcm3, hsz3, htk3⟩ := ho3.row (by have := HR1.out; omega); clear hsz3 htk3; (try clear A0); (try clear A1); (try clear C0); (try clear C1); (try clear zA); (try clear zC); (try clear l0); (try clear l1); (try clear R0); (try clear R1); (try clear R2); (try clear R3); (try clear R4); (try clear hgl); (try clear Q0); (try clear T4); have A0 := B3.A0; have A1 := B3.A1; have C0 := B3.C0; have C1 := B3.C1; have zA := B3.zA; have zC := B3.zC) | (at_builtin; go_loud (refine wpl_append rfl (.tmp 55) (.tmp 60) rfl tRow (ho3.keep ((Keeps.refl NoB _).alloc _) (fun _ _ h => h)) (own_lit (S := fun _ => True) [(⟨2, m, 1, ⟨#[]⟩, none, 0, 0⟩ : RRow)] #[.int .i64 2, .int .i64 m, .int .i64 1, .string ⟨#[]⟩, .slice none 0 0] rfl 1 rfl trivial (by decide)).sl rfl rfl (by have := B3.size; simp; omega) (by have := HR1.out; simp [maxLen]; omega) (by have := HR1.out; simp; omega) ?_); intro v4 w4 ho4 hk4 hf4; have B4 := (B3.on ((Keeps.refl NoB _).alloc _)).keep hk4 (fun h => by have := hf3' _ h; omega) (fun h => by have := hf3' _ h; omega) (fun b h => by have := hf3' _ h; omega); obtain ⟨g4, cp4, cur4, rfl, hS4, hg4, hcp4, hcm4, hsz4, htk4⟩ := ho4.row (by simp); clear hsz4 htk4 hg4; (try clear A0); (try clear A1); (try clear C0); (try clear C1); (try clear zA); (try clear zC); (try clear l0); (try clear l1); (try clear R0); (try clear R1); (try clear R2); (try clear R3); (try clear R4); (try clear hgl); (try clear Q0); (try clear T4); have A0 := B4.A0; have A1 := B4.A1; have C0 := B4.C0; have C1 := B4.C1; have zA := B4.zA; have zC := B4.zC))
        (try simp only [Exit.inBlock, Exit.then])
        refine bodyPost_ret (v := .tuple #[.agg #[.slice (some ⟨g4, 0, none⟩) (rows.length + 1) cp4, .int .i64 room], .int .i64 (wrap64 (rows.length : Int)), .int .i64 0]) ?_ rfl ?_
        · rw [results_cell_tmp2 rfl]
          go_simp
        · exact make_store B4.keeps hS ho4 HR1.out HR3.out hdl hS4 _ _ _
theorem r4make_any (h : RefAt S w p c d) (hS : ∀ g, w.heap.size ≤ g → S g) (hI : DInv d) (hs : smallD d) (kind m : Int) (s : ByteArray) (hsz : s.size ≤ 4294967296) :
    Calls Tryz.prog 166 #[refV p c d room, .int .i64 kind, .int .i64 m, .string s] w (MTo S w (makeTo d room kind m s) room (makeId d room kind m s) (makeErr d room kind m s)) := by
  unfold makeId makeTo
  by_cases he : makeErr d room kind m s = 0
  · rw [if_pos he, if_pos he, he]; exact r4make_ok h hS hI hs kind m s he
  · rw [if_neg he, if_neg he]; exact r4make_err h hI hs kind m s hsz he
end
end Go.Proofs.YtijbhmledmnifaaGreatDoor

/-
  Contracts of package walk: step.
-/
set_option maxRecDepth 100000
set_option maxHeartbeats 2000000
namespace Go.Proofs.YtijbhmledmnifaaGreatDoor
open Go Go.RowKit
section
variable {R : RD} {w0 w w' : World} {a g : Nat} {d : Nds} {room us : Int} {lk up : Int → Int}
theorem Wkr.set {at' : Int} {n : Nat} (h : Wkr w g a at' n) {B : Nat} (hB : ¬ g = B) (j : Nat) (v : Value) : Wkr (w.setCell ⟨B, j, none⟩ v) g a at' n := h.keep (keeps_set _ _ _) hB
theorem Wkr.alloc {at' : Int} {n : Nat} (h : Wkr w g a at' n) (o : Obj) : Wkr (w.alloc o) g a at' n := h.on ((Keeps.refl NoB w).alloc o)
theorem Wkr.drew {at' : Int} {n : Nat} (h : Wkr w g a at' n) : Wkr w.drew g a at' n := h.on (Keeps.refl NoB w).drew
def StepTo (w : World) (g a : Nat) (at' : Int) (q : StepR) (e : Ending) (w' : World) : Prop :=
  e = .returned (.tuple #[plcV q.p, .string q.t, .int .i64 q.e]) ∧ Keeps (fun b => b = g) w w' ∧ Wkr w' g a at' q.n
theorem hid_into (h : Rep R w0 a d room us lk up) (k : Keeps NoB w0 w) {at' : Int} {n : Nat} (hw : Wkr w g a at' n) (hI : DInv d) :
    Hid (Calls Tryz.prog 183 #[.pointer (some ⟨g, 0, none⟩)] (w.alloc (.cells #[.int .i64 0, .int .i64 0, .string ⟨#[]⟩] 143)) fun e w' => e = .returned (.int .i64 (intoErr d at')) ∧ Keeps NoB (w.alloc (.cells #[.int .i64 0, .int .i64 0, .string ⟨#[]⟩] 143)) w') := by
  have kal : Keeps NoB w (w.alloc (.cells #[.int .i64 0, .int .i64 0, .string ⟨#[]⟩] 143)) := (Keeps.refl _ _).alloc _
  exact Lib.hid (into_any h (k.trans kal) (hw.on kal) hI)
theorem not_dot {x : ByteArray} (h : ¬ x = dotB) : (x.toList == [46]) = false := by
  have := toList_eq x dotB
  rw [show dotB.toList = [46] by rw [Lib.toList_data]] at this
  rw [this]; simpa using h
theorem not_dots {x : ByteArray} (h : ¬ x = dotsB) : (x.toList == [46, 46]) = false := by
  have := toList_eq x dotsB
  rw [show dotsB.toList = [46, 46] by rw [Lib.toList_data]] at this
  rw [this]; simpa using h
theorem step_into (h : Rep R w0 a d room us lk up) (k : Keeps NoB w0 w) {at' : Int} {n : Nat} (hw : Wkr w g a at' n) (hI : DInv d) (x : ByteArray) (follow : Bool)
    (hin : intoErr d at' ≠ 0) : Calls Tryz.prog 184 #[.pointer (some ⟨g, 0, none⟩), .string x, .bool follow] w (StepTo w g a at' ⟨.no, ⟨#[]⟩, intoErr d at', n⟩) := by
  have HIn := hid_into h k hw hI
  have hgB : ¬ g = w.heap.size := by have := hw.lt; omega
  have hne : (intoErr d at' != 0) = true := by simpa using hin
  go_enter Tryz.func184, Tryz.ntmps184
  go_wp2_with (go_at_call 183; refine HIn.out.mono ?_; rintro e w1 ⟨rfl, hk1⟩; have B0 := boxed hk1 0 _ rfl; have B1 := boxed hk1 1 _ rfl; have B2 := boxed hk1 2 _ rfl; have FB := boxedz hk1; have hw1 := hw.on ((Keeps.refl NoB w).alloc (.cells #[.int .i64 0, .int .i64 0, .string ⟨#[]⟩] 143) |>.trans hk1); have C0 := hw1.c0; have C1 := hw1.c1; have C2 := hw1.c2; have FZ := hw1.fz; have zlt : w.heap.size < w1.heap.size := Nat.lt_of_lt_of_le (by simp) hk1.size; have kw : Keeps (fun b => b = g) w w1 := Keeps.of_none (((Keeps.refl NoB w).alloc (.cells #[.int .i64 0, .int .i64 0, .string ⟨#[]⟩] 143)).trans hk1))
  (try simp only [Exit.inBlock, Exit.then])
  refine bodyPost_ret (v := .tuple #[plcV .no, .string ⟨#[]⟩, .int .i64 (intoErr d at')]) ?_ rfl ⟨rfl, ?_, ?_⟩
  · rw [results_cell_tmp2 rfl]; (try unfold plcV); (try unfold Plc.no); (try unfold Plc.on); go_simp
  · (repeat (first | with_reducible assumption | (with_reducible exact Keeps.refl _ _) | (with_reducible refine Keeps.drew ?_) | (with_reducible refine Keeps.alloc ?_ _) | (with_reducible refine Keeps.setCell ?_ (by first | exact Or.inl rfl | exact Or.inr (Nat.le_refl _) | exact Or.inr (by first | (simp; done) | (simp; omega))) _)))
  · (repeat (first | with_reducible assumption | (with_reducible refine Wkr.set ?_ (by first | exact hgB | (simp; omega)) _ _) | (with_reducible refine Wkr.alloc ?_ _) | (with_reducible refine Wkr.drew ?_)))
theorem step_dot (h : Rep R w0 a d room us lk up) (k : Keeps NoB w0 w) {at' : Int} {n : Nat} (hw : Wkr w g a at' n) (hI : DInv d) (follow : Bool)
    (hin : intoErr d at' = 0) : Calls Tryz.prog 184 #[.pointer (some ⟨g, 0, none⟩), .string dotB, .bool follow] w (StepTo w g a at' ⟨.on at', ⟨#[]⟩, 0, n⟩) := by
  have HIn := hid_into h k hw hI
  rw [hin] at HIn
  have hgB : ¬ g = w.heap.size := by have := hw.lt; omega
  go_enter Tryz.func184, Tryz.ntmps184
  go_wp2_with (go_at_call 183; refine HIn.out.mono ?_; rintro e w1 ⟨rfl, hk1⟩; have B0 := boxed hk1 0 _ rfl; have B1 := boxed hk1 1 _ rfl; have B2 := boxed hk1 2 _ rfl; have FB := boxedz hk1; have hw1 := hw.on ((Keeps.refl NoB w).alloc (.cells #[.int .i64 0, .int .i64 0, .string ⟨#[]⟩] 143) |>.trans hk1); have C0 := hw1.c0; have C1 := hw1.c1; have C2 := hw1.c2; have FZ := hw1.fz; have zlt : w.heap.size < w1.heap.size := Nat.lt_of_lt_of_le (by simp) hk1.size; have kw : Keeps (fun b => b = g) w w1 := Keeps.of_none (((Keeps.refl NoB w).alloc (.cells #[.int .i64 0, .int .i64 0, .string ⟨#[]⟩] 143)).trans hk1))
  (try simp only [Exit.inBlock, Exit.then])
  refine bodyPost_ret (v := .tuple #[plcV (.on at'), .string ⟨#[]⟩, .int .i64 0]) ?_ rfl ⟨rfl, ?_, ?_⟩
  · rw [results_cell_tmp2 rfl]; (try unfold plcV); (try unfold Plc.no); (try unfold Plc.on); go_simp
  · (repeat (first | with_reducible assumption | (with_reducible exact Keeps.refl _ _) | (with_reducible refine Keeps.drew ?_) | (with_reducible refine Keeps.alloc ?_ _) | (with_reducible refine Keeps.setCell ?_ (by first | exact Or.inl rfl | exact Or.inr (Nat.le_refl _) | exact Or.inr (by first | (simp; done) | (simp; omega))) _)))
  · (repeat (first | with_reducible assumption | (with_reducible refine Wkr.set ?_ (by first | exact hgB | (simp; omega)) _ _) | (with_reducible refine Wkr.alloc ?_ _) | (with_reducible refine Wkr.drew ?_)))
theorem step_up (h : Rep R w0 a d room us lk up) (k : Keeps NoB w0 w) {at' : Int} {n : Nat} (hw : Wkr w g a at' n) (hI : DInv d) (follow : Bool)
    (hin : intoErr d at' = 0) (hf : folderErr d at' = 0) : Calls Tryz.prog 184 #[.pointer (some ⟨g, 0, none⟩), .string dotsB, .bool follow] w (StepTo w g a at' ⟨.on (up at'), ⟨#[]⟩, 0, n⟩) := by
  have HIn := hid_into h k hw hI
  rw [hin] at HIn
  have HUp := Lib.hid (fun (w1 : World) (hk : Keeps NoB w0 w1) => up_any (h.keepN hk) at')
  rw [hf, if_pos rfl] at HUp
  have hgB : ¬ g = w.heap.size := by have := hw.lt; omega
  go_enter Tryz.func184, Tryz.ntmps184
  go_upto_region 7 with (first | (go_at_call 183; refine HIn.out.mono ?_; rintro e w1 ⟨rfl, hk1⟩; have B0 := boxed hk1 0 _ rfl; have B1 := boxed hk1 1 _ rfl; have B2 := boxed hk1 2 _ rfl; have FB := boxedz hk1; have hw1 := hw.on ((Keeps.refl NoB w).alloc (.cells #[.int .i64 0, .int .i64 0, .string ⟨#[]⟩] 143) |>.trans hk1); have C0 := hw1.c0; have C1 := hw1.c1; have C2 := hw1.c2; have FZ := hw1.fz; have zlt : w.heap.size < w1.heap.size := Nat.lt_of_lt_of_le (by simp) hk1.size; have kw : Keeps (fun b => b = g) w w1 := Keeps.of_none (((Keeps.refl NoB w).alloc (.cells #[.int .i64 0, .int .i64 0, .string ⟨#[]⟩] 143)).trans hk1)))
  have kz : Keeps NoB w0 w1 := (k.trans ((Keeps.refl NoB w).alloc _)).trans hk1
  go_cut [9] from 9 to 42 (fun x wx => x = .int .i64 (up at') ∧ Keeps NoB w1 wx)
  case first =>
    have kr := Keeps.refl NoB w1
    have krd := kr.drew
    have d0 := (hw1.on krd).c0
    have d1 := (hw1.on krd).c1
    go_region_held3 (fun wz => wz.cell? ⟨g, 0, none⟩ = some (.pointer (some ⟨a, 0, none⟩)) ∧ wz.cell? ⟨g, 1, none⟩ = some (.int .i64 at') ∧ Keeps NoB w1 wz) (refine ⟨?_, ?_, ?_⟩ <;> with_reducible assumption)
      (first | (go_at_call 211; refine (HUp.out _ (kz.trans (by (repeat (first | with_reducible assumption | (with_reducible exact Keeps.refl _ _) | (with_reducible refine Keeps.drew ?_) | (with_reducible refine Keeps.alloc ?_ _) | (with_reducible refine Keeps.setCell ?_ (by first | exact Or.inl rfl | exact Or.inr (Nat.le_refl _) | exact Or.inr (by first | (simp; done) | (simp; omega))) _)))))).mono ?_; rintro e w2 ⟨rfl, rfl⟩))
    all_goals (go_wp2_with fail; go_meet; exact ⟨rfl, by (repeat (first | with_reducible assumption | (with_reducible exact Keeps.refl _ _) | (with_reducible refine Keeps.drew ?_) | (with_reducible refine Keeps.alloc ?_ _) | (with_reducible refine Keeps.setCell ?_ (by first | exact Or.inl rfl | exact Or.inr (Nat.le_refl _) | exact Or.inr (by first | (simp; done) | (simp; omega))) _)))⟩)
  case rest =>
    obtain ⟨rfl, hk2⟩ := hcut
    clear B0 B1 B2 C0 C1 C2 kw
    replace hk1 := hk1.trans hk2
    clear zlt hw1 FZ FB
    generalize wc = w1 at *
    have B0 := boxed hk1 0 _ rfl; have B1 := boxed hk1 1 _ rfl; have B2 := boxed hk1 2 _ rfl; have FB := boxedz hk1; have hw1 := hw.on ((Keeps.refl NoB w).alloc (.cells #[.int .i64 0, .int .i64 0, .string ⟨#[]⟩] 143) |>.trans hk1); have C0 := hw1.c0; have C1 := hw1.c1; have C2 := hw1.c2; have FZ := hw1.fz; have zlt : w.heap.size < w1.heap.size := Nat.lt_of_lt_of_le (by simp) hk1.size; have kw : Keeps (fun b => b = g) w w1 := Keeps.of_none (((Keeps.refl NoB w).alloc (.cells #[.int .i64 0, .int .i64 0, .string ⟨#[]⟩] 143)).trans hk1)
    go_wp2_with fail
    (try simp only [Exit.inBlock, Exit.then])
    refine bodyPost_ret (v := .tuple #[plcV (.on (up at')), .string ⟨#[]⟩, .int .i64 0]) ?_ rfl ⟨rfl, ?_, ?_⟩
    · rw [results_cell_tmp2 rfl]; (try unfold plcV); (try unfold Plc.no); (try unfold Plc.on); go_simp
    · (repeat (first | with_reducible assumption | (with_reducible exact Keeps.refl _ _) | (with_reducible refine Keeps.drew ?_) | (with_reducible refine Keeps.alloc ?_ _) | (with_reducible refine Keeps.setCell ?_ (by first | exact Or.inl rfl | exact Or.inr (Nat.le_refl _) | exact Or.inr (by first | (simp; done) | (simp; omega))) _)))
    · (repeat (first | with_reducible assumption | (with_reducible refine Wkr.set ?_ (by first | exact hgB | (simp; omega)) _ _) | (with_reducible refine Wkr.alloc ?_ _) | (with_reducible refine Wkr.drew ?_)))
theorem step_long (h : Rep R w0 a d room us lk up) (k : Keeps NoB w0 w) {at' : Int} {n : Nat} (hw : Wkr w g a at' n) (hI : DInv d) (x : ByteArray) (follow : Bool)
    (hin : intoErr d at' = 0) (h1 : ¬ x = dotB) (h2 : ¬ x = dotsB) (h3 : 255 < x.size) : Calls Tryz.prog 184 #[.pointer (some ⟨g, 0, none⟩), .string x, .bool follow] w (StepTo w g a at' ⟨.no, ⟨#[]⟩, 18, n⟩) := by
  have HIn := hid_into h k hw hI
  rw [hin] at HIn
  have hgB : ¬ g = w.heap.size := by have := hw.lt; omega
  have e1 : (x.toList == [46]) = false := not_dot h1
  have e2 : (x.toList == [46, 46]) = false := not_dots h2
  go_enter Tryz.func184, Tryz.ntmps184
  go_wp2_with (go_at_call 183; refine HIn.out.mono ?_; rintro e w1 ⟨rfl, hk1⟩; have B0 := boxed hk1 0 _ rfl; have B1 := boxed hk1 1 _ rfl; have B2 := boxed hk1 2 _ rfl; have FB := boxedz hk1; have hw1 := hw.on ((Keeps.refl NoB w).alloc (.cells #[.int .i64 0, .int .i64 0, .string ⟨#[]⟩] 143) |>.trans hk1); have C0 := hw1.c0; have C1 := hw1.c1; have C2 := hw1.c2; have FZ := hw1.fz; have zlt : w.heap.size < w1.heap.size := Nat.lt_of_lt_of_le (by simp) hk1.size; have kw : Keeps (fun b => b = g) w w1 := Keeps.of_none (((Keeps.refl NoB w).alloc (.cells #[.int .i64 0, .int .i64 0, .string ⟨#[]⟩] 143)).trans hk1))
  (try simp only [Exit.inBlock, Exit.then])
  refine bodyPost_ret (v := .tuple #[plcV .no, .string ⟨#[]⟩, .int .i64 18]) ?_ rfl ⟨rfl, ?_, ?_⟩
  · rw [results_cell_tmp2 rfl]; (try unfold plcV); (try unfold Plc.no); (try unfold Plc.on); go_simp
  · (repeat (first | with_reducible assumption | (with_reducible exact Keeps.refl _ _) | (with_reducible refine Keeps.drew ?_) | (with_reducible refine Keeps.alloc ?_ _) | (with_reducible refine Keeps.setCell ?_ (by first | exact Or.inl rfl | exact Or.inr (Nat.le_refl _) | exact Or.inr (by first | (simp; done) | (simp; omega))) _)))
  · (repeat (first | with_reducible assumption | (with_reducible refine Wkr.set ?_ (by first | exact hgB | (simp; omega)) _ _) | (with_reducible refine Wkr.alloc ?_ _) | (with_reducible refine Wkr.drew ?_)))
end
end Go.Proofs.YtijbhmledmnifaaGreatDoor
