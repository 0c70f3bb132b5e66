/-
  Contracts of the reference for layer 4, the ninth part: Move, where it fails, or has nothing to do.
-/
import Derived.Test.YtbcejodnjeklpaaDoorB15
import Derived.Test.YtbcejodnjeklpaaDoorB12
import Derived.Test.YtbcejodnjeklpaaDoorB16
import Derived.Deep.RegionHeld3

set_option linter.unusedSimpArgs false
set_option linter.unusedVariables false

namespace Go.Proofs.YtbcejodnjeklpaaDoor
open Go.RowKit
set_option maxRecDepth 100000
set_option maxHeartbeats 2000000

section
variable {S : Nat → Prop} {w : World} {p : Option Addr} {c : Nat} {d : Nds} {room : Int}

/-- The rows that Move reads. -/
theorem move_rows (h : RefAt S w p c d) {f t k : Int} (hf : has d f) (ht : has d t) (hk : has d k) :
    ∃ (F T K : Nat) (g off : Nat) (q q' : Option Addr) (m m' : Nat), f = (F : Int) ∧ t = (T : Int) ∧ k = (K : Int) ∧ F < d.length ∧ T < d.length ∧ K < d.length ∧ p = some ⟨g, off, none⟩ ∧ S g ∧
    SlAt encEnt S w q m (nd d (F : Int)).ents ∧ SlAt encEnt S w q' m' (nd d (T : Int)).ents ∧ g < w.heap.size ∧
    (∀ w1, Keeps NoB w w1 → (w1.cell? ⟨g, off + F * 5, none⟩ = some (.int .i64 (nd d F).kind) ∧ w1.cell? ⟨g, off + F * 5 + 1, none⟩ = some (.int .i64 (nd d F).mode) ∧ w1.cell? ⟨g, off + F * 5 + 2, none⟩ = some (.int .i64 (nd d F).holds) ∧
      w1.cell? ⟨g, off + F * 5 + 3, none⟩ = some (.string (nd d F).data) ∧ w1.cell? ⟨g, off + F * 5 + 4, none⟩ = some (.slice q (nd d F).ents.length m) ∧ g < w1.heap.size ∧ w1.cell? ⟨g, off + K * 5, none⟩ = some (.int .i64 (nd d K).kind) ∧
      w1.cell? ⟨g, off + T * 5 + 4, none⟩ = some (.slice q' (nd d T).ents.length m'))) := by
  obtain ⟨F, rfl, hF⟩ := has_nat hf
  obtain ⟨T, rfl, hT⟩ := has_nat ht
  obtain ⟨K, rfl, hK⟩ := has_nat hk
  obtain ⟨g, off, q, m, rfl, hSg, hrow⟩ := h.rowAt hF
  obtain ⟨g', off', q', m', hp', _, hrow'⟩ := h.rowAt hT
  cases hp'
  obtain ⟨g'', off'', q'', m'', hp'', _, hrow''⟩ := h.rowAt hK
  cases hp''
  refine ⟨F, T, K, g, off, q, q', m, m', rfl, rfl, rfl, hF, hT, hK, rfl, hSg, hrow.sl, hrow'.sl, hrow.lt, fun w1 hk1 => ?_⟩
  exact ⟨(hrow.keepN hk1).c0, (hrow.keepN hk1).c1, (hrow.keepN hk1).c2, (hrow.keepN hk1).c3, (hrow.keepN hk1).c4, (hrow.keepN hk1).lt, (hrow''.keepN hk1).c0, (hrow'.keepN hk1).c4⟩

end

end Go.Proofs.YtbcejodnjeklpaaDoor

/-
  The reference's Move: its variables in memory, and the facts of its two puts.
-/
namespace Go.Proofs.YtbcejodnjeklpaaDoor
open Go.RowKit
set_option maxRecDepth 100000
set_option maxHeartbeats 1000000

theorem RBox.keep {F : Nat → Prop} {w w1 w2 : World} {p : Option Addr} {n c : Nat} {room : Int} (h : RBox w w1 p n c room) (k : Keeps F w1 w2) (hA : ¬ F w.heap.size) (hC : ¬ F (w.heap.size + 1)) (hF : ∀ b, F b → w.heap.size ≤ b) : RBox w w2 p n c room := by
  have l1 := lt_of_cell h.A0
  have l2 := lt_of_cell h.C0
  have := k.size
  exact ⟨(k.cell (p := ⟨w.heap.size, 0, none⟩) l1 hA).trans h.A0, (k.cell (p := ⟨w.heap.size, 1, none⟩) l1 hA).trans h.A1, (k.cell (p := ⟨w.heap.size + 1, 0, none⟩) l2 hC).trans h.C0, (k.cell (p := ⟨w.heap.size + 1, 1, none⟩) l2 hC).trans h.C1,
    fun j => (k.frozen (p := ⟨w.heap.size, j, none⟩) l1 hA).trans (h.zA j), fun j => (k.frozen (p := ⟨w.heap.size + 1, j, none⟩) l2 hC).trans (h.zC j), by have := h.size; omega, h.keeps.step k (fun b hb => .inr (hF b hb))⟩

/-- The disk's variable stored. -/
theorem RBox.setA {w w1 : World} {p p' : Option Addr} {n n' c c' : Nat} {room room' : Int} (h : RBox w w1 p n c room) : RBox w ((w1.setCell ⟨w.heap.size, 0, none⟩ (.slice p' n' c')).setCell ⟨w.heap.size, 1, none⟩ (.int .i64 room')) p' n' c' room' := by
  have k : Keeps (fun b => b = w.heap.size) w1 ((w1.setCell ⟨w.heap.size, 0, none⟩ (.slice p' n' c')).setCell ⟨w.heap.size, 1, none⟩ (.int .i64 room')) := (keeps_set w1 ⟨w.heap.size, 0, none⟩ _).trans (keeps_set _ ⟨w.heap.size, 1, none⟩ _)
  have l2 := lt_of_cell h.C0
  have hC : ¬ w.heap.size + 1 = w.heap.size := by omega
  have := k.size
  refine ⟨?_, ?_, (k.cell (p := ⟨w.heap.size + 1, 0, none⟩) l2 hC).trans h.C0, (k.cell (p := ⟨w.heap.size + 1, 1, none⟩) l2 hC).trans h.C1, fun j => ?_, fun j => (k.frozen (p := ⟨w.heap.size + 1, j, none⟩) l2 hC).trans (h.zC j), by have := h.size; omega, h.keeps.step k (fun b hb => .inr (by omega))⟩
  · have h1 := cell_set (g := w.heap.size) (k := 0) (u := .slice p' n' c') (j := 0) h.A0
    rw [if_pos rfl] at h1
    have h2 := cell_set (g := w.heap.size) (k := 1) (u := .int .i64 room') (j := 0) h1
    rw [if_neg (by decide)] at h2
    exact h2
  · have h1 := cell_set (g := w.heap.size) (k := 0) (u := .slice p' n' c') (j := 1) h.A1
    rw [if_neg (by decide)] at h1
    have h2 := cell_set (g := w.heap.size) (k := 1) (u := .int .i64 room') (j := 1) h1
    rw [if_pos rfl] at h2
    exact h2
  · exact (frozen_set _ _ _ _).trans ((frozen_set _ _ _ _).trans (h.zA j))

theorem NBox.keep {F : Nat → Prop} {w1 w2 w3 : World} {v0 v1 v2 v3 v4 : Value} (h : NBox w1 w2 v0 v1 v2 v3 v4) (k : Keeps F w2 w3) (hN : ¬ F w1.heap.size) : NBox w1 w3 v0 v1 v2 v3 v4 := by
  have l := lt_of_cell h.N0
  exact ⟨(k.cell (p := ⟨w1.heap.size, 0, none⟩) l hN).trans h.N0, (k.cell (p := ⟨w1.heap.size, 1, none⟩) l hN).trans h.N1, (k.cell (p := ⟨w1.heap.size, 2, none⟩) l hN).trans h.N2, (k.cell (p := ⟨w1.heap.size, 3, none⟩) l hN).trans h.N3,
    (k.cell (p := ⟨w1.heap.size, 4, none⟩) l hN).trans h.N4, fun j => (k.frozen (p := ⟨w1.heap.size, j, none⟩) l hN).trans (h.zN j)⟩

theorem NBox.set4 {w1 w2 : World} {v0 v1 v2 v3 v4 : Value} (h : NBox w1 w2 v0 v1 v2 v3 v4) (v : Value) : NBox w1 (w2.setCell ⟨w1.heap.size, 4, none⟩ v) v0 v1 v2 v3 v := by
  have h0 := cell_set (g := w1.heap.size) (k := 4) (u := v) (j := 0) h.N0
  have h1 := cell_set (g := w1.heap.size) (k := 4) (u := v) (j := 1) h.N1
  have h2 := cell_set (g := w1.heap.size) (k := 4) (u := v) (j := 2) h.N2
  have h3 := cell_set (g := w1.heap.size) (k := 4) (u := v) (j := 3) h.N3
  have h4 := cell_set (g := w1.heap.size) (k := 4) (u := v) (j := 4) h.N4
  rw [if_neg (by decide)] at h0 h1 h2 h3
  rw [if_pos rfl] at h4
  exact ⟨h0, h1, h2, h3, h4, fun j => (frozen_set _ _ _ _).trans (h.zN j)⟩

theorem NBox.set5 {w1 w2 : World} {v0 v1 v2 v3 v4 : Value} (h : NBox w1 w2 v0 v1 v2 v3 v4) (u0 u1 u2 u3 u4 : Value) : NBox w1 (Go.Proofs.YtbcejodnjeklpaaDoor.set5 w2 w1.heap.size 0 u0 u1 u2 u3 u4) u0 u1 u2 u3 u4 := by
  have step : ∀ (W : World) (i : Nat) (u : Value) (x0 x1 x2 x3 x4 : Value), NBox w1 W x0 x1 x2 x3 x4 → NBox w1 (W.setCell ⟨w1.heap.size, i, none⟩ u) (if 0 = i then u else x0) (if 1 = i then u else x1) (if 2 = i then u else x2) (if 3 = i then u else x3) (if 4 = i then u else x4) := fun W i u x0 x1 x2 x3 x4 hW => by
    have e : ∀ j x, W.cell? ⟨w1.heap.size, j, none⟩ = some x → (W.setCell ⟨w1.heap.size, i, none⟩ u).cell? ⟨w1.heap.size, j, none⟩ = some (if j = i then u else x) := fun j x hx => by
      have := cell_set (g := w1.heap.size) (k := i) (u := u) (j := j) hx
      rw [this]
    exact ⟨e 0 _ hW.N0, e 1 _ hW.N1, e 2 _ hW.N2, e 3 _ hW.N3, e 4 _ hW.N4, fun j => (frozen_set _ _ _ _).trans (hW.zN j)⟩
  unfold Go.Proofs.YtbcejodnjeklpaaDoor.set5
  have s0 := step _ 0 u0 _ _ _ _ _ h
  have s1 := step _ 1 u1 _ _ _ _ _ s0
  have s2 := step _ 2 u2 _ _ _ _ _ s1
  have s3 := step _ 3 u3 _ _ _ _ _ s2
  have s4 := step _ 4 u4 _ _ _ _ _ s3
  simpa using s4

section
variable {S : Nat → Prop} {w w2 : World} {p : Option Addr} {c : Nat} {d : Nds} {room : Int} {N : Nat}

theorem RefAt.but3 (h : RefAt S w p c d) (hk : Keeps NoB w w2) (hN : w.heap.size + 2 ≤ N) : RefAt (But3 S w N) w2 p c d := h.keepS hk (fun _ _ _ h => h) (fun g hg hl => ⟨⟨hg, by omega, by omega⟩, by omega⟩)
theorem but3_new (hS : ∀ g, w.heap.size ≤ g → S g) (hN : w.heap.size + 2 ≤ N) (hsz : N < w2.heap.size) : ∀ g, w2.heap.size ≤ g → But3 S w N g := fun g hg => ⟨⟨hS g (by omega), by omega, by omega⟩, by omega⟩
theorem RefAt.of3 (h : RefAt (But3 S w N) w2 p c d) : RefAt (But2 S w) w2 p c d := h.keepS (Keeps.refl NoB _) (fun _ _ _ h => h) (fun _ hg _ => hg.1)
/-- A variable of the method stored: the disk stays. -/
theorem RefAt.var {w3 : World} {F : Nat → Prop} (h : RefAt (But3 S w N) w2 p c d) (k : Keeps F w2 w3) (hF : ∀ b, F b → b = w.heap.size ∨ b = w.heap.size + 1 ∨ b = N) : RefAt (But3 S w N) w3 p c d :=
  h.keepS k (fun b hb _ e => by rcases hF b e with e | e | e <;> first | exact hb.1.2.1 e | exact hb.1.2.2 e | exact hb.2 e) (fun _ hg _ => hg)
theorem SlAt.var3 {α : Type} {E : Enc α} {q : Option Addr} {m : Nat} {l : List α} {w3 : World} {F : Nat → Prop} (h : SlAt E (But3 S w N) w2 q m l) (k : Keeps F w2 w3) (hF : ∀ b, F b → b = w.heap.size ∨ b = w.heap.size + 1 ∨ b = N) : SlAt E (But3 S w N) w3 q m l :=
  h.keepS k (fun b hb _ e => by rcases hF b e with e | e | e <;> first | exact hb.1.2.1 e | exact hb.1.2.2 e | exact hb.2 e) (fun _ hg _ => hg)

/-- put of other entries, in a disk that lies beside the method's variables. -/
theorem put3 (h : RefAt (But3 S w N) w2 p c d) (hS : ∀ g, w.heap.size ≤ g → S g) (hN : w.heap.size + 2 ≤ N) (hsz : N < w2.heap.size) (hs : d.length ≤ 4294967296) (k : Nat) (hk : k < d.length) (l : List Ent) (q : Option Addr) (m : Nat) (hx : SlAt encEnt (But3 S w N) w2 q m l)
    (d' : Nds) (hd : setE d (k : Int) l = d') :
    Calls Tryd.prog 47 #[.agg #[.slice p d.length c, .int .i64 room], .int .i64 k, .agg #[.int .i64 (nd d (k : Int)).kind, .int .i64 (nd d (k : Int)).mode, .int .i64 (nd d (k : Int)).holds, .string (nd d (k : Int)).data, .slice q l.length m]] w2 fun e w' =>
      ∃ p' c', e = .returned (.agg #[.slice p' d.length c', .int .i64 room]) ∧ RefAt (But3 S w N) w' p' c' d' ∧ Keeps NoB w2 w' := by
  refine (r4put_any (S := But3 S w N) (room := room) h (but3_new hS hN hsz) k hk hs ((nd d (k : Int)).setEnts l) q m hx).mono ?_
  rintro e w' ⟨v', rfl, ⟨p', c', rfl, href⟩, hk'⟩
  have hl : (upd d (k : Int) ((nd d (k : Int)).setEnts l)).length = d.length := upd_length _ _ _
  refine ⟨p', c', by unfold refV; rw [hl], ?_, hk'⟩
  rw [← hd]
  exact href

end

end Go.Proofs.YtbcejodnjeklpaaDoor

/-
  Contracts of the reference for layer 4, the tenth part: Move in another's place.
-/
namespace Go.Proofs.YtbcejodnjeklpaaDoor
open Go.RowKit
set_option maxRecDepth 100000
set_option maxHeartbeats 2000000

section
variable {S : Nat → Prop} {w : World} {p : Option Addr} {c : Nat} {d : Nds} {room : Int}

end

end Go.Proofs.YtbcejodnjeklpaaDoor

/-
  Contracts of the reference for layer 4, the eleventh part: Move to a new name.
-/
namespace Go.Proofs.YtbcejodnjeklpaaDoor
open Go.RowKit
set_option maxRecDepth 100000
set_option maxHeartbeats 2000000

section
variable {S : Nat → Prop} {w : World} {p : Option Addr} {c : Nat} {d : Nds} {room : Int}

theorem wrap_move {u lo ln : Nat} (h : (u : Int) ≤ 9007199254740992) (h1 : lo ≤ 255) (h2 : ln ≤ 255) : wrap64 ((u : Int) + (lo : Int)) = (u : Int) + (lo : Int) ∧ wrap64 ((u : Int) + (lo : Int) - (ln : Int)) = (u : Int) + (lo : Int) - (ln : Int) :=
  ⟨IntWalk.wrap64_in _ (by omega), IntWalk.wrap64_in _ (by omega)⟩

end

end Go.Proofs.YtbcejodnjeklpaaDoor

/-
  Contracts of the reference for layer 4, the twelfth part: Move to a new name.
-/
namespace Go.Proofs.YtbcejodnjeklpaaDoor
open Go.RowKit
set_option maxRecDepth 100000
set_option maxHeartbeats 2000000

section
variable {S : Nat → Prop} {w : World} {p : Option Addr} {c : Nat} {d : Nds} {room : Int}

end

end Go.Proofs.YtbcejodnjeklpaaDoor

/-
  Contracts of the reference for layer 4: Move, all of it.
-/
namespace Go.Proofs.YtbcejodnjeklpaaDoor
open Go.RowKit
set_option maxRecDepth 100000
set_option maxHeartbeats 1000000

section
variable {S : Nat → Prop} {w : World} {p : Option Addr} {c : Nat} {d : Nds} {room : Int}

end

end Go.Proofs.YtbcejodnjeklpaaDoor
