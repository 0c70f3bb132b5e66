/-
  DiskRoom: the walk.
-/
import Derived.Test.YtbcejodnjeklpaaZLaw4R
import Derived.Test.YtbcejodnjeklpaaZDiskQ8

set_option linter.unusedSimpArgs false
set_option linter.unusedVariables false

namespace Go.Proofs.Ytbcejodnjeklpaa
open Go.RowKit
set_option maxRecDepth 100000
set_option maxHeartbeats 2000000

/-- A law holds both disks; blocks N are neither's. -/
structure LawN (N : Nat → Prop) (W w : World) (X a : Nat) (dp : Nds) (p : Option Addr) (c : Nat) (d : Nds) (room : Int) : Prop where
  pair : Pair N w a dp p c d room
  low : ∀ g, g < W.heap.size ∨ g = X → N g
  X0 : w.cell? ⟨X, 0, none⟩ = some (.slice p d.length c)
  X1 : w.cell? ⟨X, 1, none⟩ = some (.int .i64 room)
  zX : ∀ j, w.frozen? ⟨X, j, none⟩ = false
  keeps : Keeps NoB W w
  new : W.heap.size ≤ X

section
variable {N : Nat → Prop} {W w w' : World} {X a : Nat} {p : Option Addr} {c : Nat} {d dp : Nds} {room : Int}

theorem LawAt.gen (h : LawAt W w X a p c d room) : LawN (fun g => g < W.heap.size ∨ g = X) W w X a d p c d room := ⟨h.pair, fun _ hg => hg, h.X0, h.X1, h.zX, h.keeps, h.new⟩
theorem LawN.at (h : LawN N W w X a d p c d room) : LawAt W w X a p c d room := ⟨h.pair.less h.low, h.X0, h.X1, h.zX, h.keeps, h.new⟩
theorem LawN.lt (h : LawN N W w X a dp p c d room) : X < w.heap.size := lt_of_cell h.X0
theorem LawN.on (h : LawN N W w X a dp p c d room) (k : Keeps NoB w w') : LawN N W w' X a dp p c d room :=
  ⟨h.pair.on k, h.low, (k.cell (p := ⟨X, 0, none⟩) h.lt (fun h => h)).trans h.X0, (k.cell (p := ⟨X, 1, none⟩) h.lt (fun h => h)).trans h.X1, fun j => (k.frozen (p := ⟨X, j, none⟩) h.lt (fun h => h)).trans (h.zX j), h.keeps.trans k, h.new⟩

/-- A call of the program's disk. -/
theorem LawN.prog {d' : Nds} {v : Value} {f : Nat} {args : Array Value} (h : LawN N W w X a dp p c d room) (hc : Pair N w a dp p c d room → Calls Try.prog f args w (PTo N w a d' p c d room v)) :
    Calls Try.prog f args w fun e w' => e = .returned v ∧ LawN N W w' X a d' p c d room ∧ Keeps (fun g => ¬ N g) w w' := by
  refine (hc h.pair).mono ?_
  rintro e w' ⟨rfl, hp, hk⟩
  have hlt := h.lt
  have hX : N X := h.low X (.inr rfl)
  exact ⟨rfl, ⟨hp, h.low, (hk.cell (p := ⟨X, 0, none⟩) hlt (fun h => h hX)).trans h.X0, (hk.cell (p := ⟨X, 1, none⟩) hlt (fun h => h hX)).trans h.X1, fun j => (hk.frozen (p := ⟨X, j, none⟩) hlt (fun h => h hX)).trans (h.zX j),
    h.keeps.step hk (fun b hb => .inr (Nat.le_of_not_lt (fun hl => hb (h.low b (.inl hl))))), h.new⟩, hk⟩

/-- A call of the reference, whose disk goes into its variable. -/
def RefIn (N : Nat → Prop) (W w : World) (X a : Nat) (dp : Nds) (p : Option Addr) (c : Nat) (d : Nds) (room : Int) (d' : Nds) (v : Value → Value) : Ending → World → Prop := fun e w' =>
  ∃ p' c', e = .returned (v (refV p' c' d' room)) ∧ w'.cell? ⟨X, 0, none⟩ = some (.slice p d.length c) ∧ w'.cell? ⟨X, 1, none⟩ = some (.int .i64 room) ∧ (∀ j, w'.frozen? ⟨X, j, none⟩ = false) ∧
    LawN N W ((w'.setCell ⟨X, 0, none⟩ (.slice p' d'.length c')).setCell ⟨X, 1, none⟩ (.int .i64 room)) X a dp p' c' d' room ∧ Keeps (fun g => g = X) w ((w'.setCell ⟨X, 0, none⟩ (.slice p' d'.length c')).setCell ⟨X, 1, none⟩ (.int .i64 room))

theorem LawN.ref {d' : Nds} {v : Value → Value} {f : Nat} {args : Array Value} (h : LawN N W w X a dp p c d room) (hc : Pair N w a dp p c d room → Calls Try.prog f args w (QTo N w a dp d' room v)) :
    Calls Try.prog f args w (RefIn N W w X a dp p c d room d' v) := by
  refine (hc h.pair).mono ?_
  rintro e w' ⟨p', c', rfl, hp, hk⟩
  have h' := h.on hk
  have hX : N X := h.low X (.inr rfl)
  have kk : Keeps (fun b => b = X) w' ((w'.setCell ⟨X, 0, none⟩ (.slice p' d'.length c')).setCell ⟨X, 1, none⟩ (.int .i64 room)) := (keeps_set w' ⟨X, 0, none⟩ _).trans (keeps_set _ ⟨X, 1, none⟩ _)
  refine ⟨p', c', rfl, h'.X0, h'.X1, h'.zX, ⟨hp.keep kk (fun x _ hx => by rw [hx]; exact hX), h.low, ?_, ?_, fun j => (frozen_set _ _ _ _).trans ((frozen_set _ _ _ _).trans (h'.zX j)), h'.keeps.step kk (fun b hb => .inr (by rw [hb]; exact h.new)), h.new⟩, (hk.mono (fun _ _ h => h.elim)).trans kk⟩
  · have h1 := cell_set (g := X) (k := 0) (u := .slice p' d'.length c') (j := 0) h'.X0
    rw [if_pos rfl] at h1
    have h2 := cell_set (g := X) (k := 1) (u := .int .i64 room) (j := 0) h1
    rw [if_neg (by decide)] at h2
    exact h2
  · have h1 := cell_set (g := X) (k := 0) (u := .slice p' d'.length c') (j := 1) h'.X1
    rw [if_neg (by decide)] at h1
    have h2 := cell_set (g := X) (k := 1) (u := .int .i64 room) (j := 1) h1
    rw [if_pos rfl] at h2
    exact h2

end

-- the plain steps
def HB (d : Nds) (m : Int) : Prop := ∀ j, (nd d j).holds ≤ m
def HZ (d : Nds) (n : Nat) : Prop := ∀ j, j < (n : Int) → (nd d j).holds = 0

theorem hz_all {d : Nds} (h : HZ d d.length) (j : Int) : (nd d j).holds = 0 := by
  by_cases hr : 0 ≤ j ∧ j.toNat < d.length
  · exact h j (by omega)
  · rw [nd_gone hr]; rfl
theorem hz_gone {d : Nds} (hI : DInv d) {n : Nat} (h : HZ d n) (hz : ¬ has d (n : Int) ∨ (nd d (n : Int)).holds = 0) : HZ d (n + 1) := fun j hj => by
  by_cases e : j = (n : Int)
  · subst e
    rcases hz with h1 | h1
    · rw [(hI.node _).gone (not_has h1)]; rfl
    · exact h1
  · exact h j (by omega)
theorem hz_rel {d : Nds} (hI : DInv d) {n : Nat} (h : HZ d n) (i : Int) (hI2 : DInv (relD d i)) : HZ (relD d i) n := fun j hj => by
  have h1 := (relD_holds hI i).1 j
  have h2 := h j hj
  have h3 := (hI2.node j).holds
  omega
theorem hb_rel {d : Nds} (hI : DInv d) {m : Int} (h : HB d m) (i : Int) : HB (relD d i) m := fun j => Int.le_trans ((relD_holds hI i).1 j) (h j)

theorem inner_step {d : Nds} (hI : DInv d) {m : Int} {l0 : List Ent} {k : Nat} {y : Ent} (hb : ∀ x ∈ (nd d m).ents, (nd d x.2).ents = []) (hd : ∀ x ∈ (nd d m).ents, x ∈ l0.drop k) (hx : l0[k]? = some y) :
    ∀ x ∈ (nd (leaveTo d m y.1) m).ents, x ∈ l0.drop (k + 1) := fun x hxm => by
  obtain ⟨h1, h2⟩ := leave_sub hxm
  have h3 := hd x h1
  obtain ⟨hk, he⟩ := List.getElem?_eq_some_iff.1 hx
  rw [List.drop_eq_getElem_cons hk, he] at h3
  rcases List.mem_cons.1 h3 with h4 | h4
  · subst h4
    exact absurd rfl (h2 (leave_done hI h1 (hb x h1)) rfl)
  · exact h4

theorem round_end {d e : Nds} {D r n0 : Nat} (hlen : d.length = n0) (h0 : cntNE d + r ≤ n0 ∨ cntNE d = 0) (hD : cntNE d = 0 ∨ Bot d D) (hs : Shr d e) (hb : Bot d D → D < n0 → (nd e (D : Int)).ents = []) : cntNE e + (r + 1) ≤ n0 ∨ cntNE e = 0 := by
  have h1 := hs.cnt_le
  rcases hD with h2 | h2
  · exact .inr (by omega)
  · have h3 := hs.cnt_lt h2.1 h2.2.1 (hb h2 (by rw [← hlen]; exact h2.1))
    rcases h0 with h4 | h4
    · exact .inl (by omega)
    · exact .inr (by omega)

end Go.Proofs.Ytbcejodnjeklpaa
