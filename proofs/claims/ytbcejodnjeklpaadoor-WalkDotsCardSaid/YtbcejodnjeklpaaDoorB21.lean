/-
  Layer 4's statements: a call of both disks.
-/
import Derived.Test.YtbcejodnjeklpaaDoorB19
import Derived.Deep.RegionHeld3
import Derived.Test.YtbcejodnjeklpaaDoorB20
import Derived.Test.YtbcejodnjeklpaaDoorB01

set_option linter.unusedSimpArgs false
set_option linter.unusedVariables false

namespace Go.Proofs.YtbcejodnjeklpaaDoor
open Go.RowKit
set_option maxRecDepth 100000
set_option maxHeartbeats 2000000

/-- The variables of do: the reference's disk, the call, the result. -/
structure DBox (w w1 : World) (p : Option Addr) (n c : Nat) (room kind oa ob : Int) (os ot : ByteArray) : Prop where
  A0 : w1.cell? ⟨w.heap.size, 0, none⟩ = some (.slice p n c)
  A1 : w1.cell? ⟨w.heap.size, 1, none⟩ = some (.int .i64 room)
  B0 : w1.cell? ⟨w.heap.size + 1, 0, none⟩ = some (.int .i64 kind)
  B1 : w1.cell? ⟨w.heap.size + 1, 1, none⟩ = some (.int .i64 oa)
  B2 : w1.cell? ⟨w.heap.size + 1, 2, none⟩ = some (.int .i64 ob)
  B3 : w1.cell? ⟨w.heap.size + 1, 3, none⟩ = some (.string os)
  B4 : w1.cell? ⟨w.heap.size + 1, 4, none⟩ = some (.string ot)
  C0 : w1.cell? ⟨w.heap.size + 2, 0, none⟩ = some (.slice none 0 0)
  C1 : w1.cell? ⟨w.heap.size + 2, 1, none⟩ = some (.int .i64 0)
  zA : ∀ j, w1.frozen? ⟨w.heap.size, j, none⟩ = false
  zC : ∀ j, w1.frozen? ⟨w.heap.size + 2, j, none⟩ = false
  size : w.heap.size + 3 ≤ w1.heap.size

theorem dbox {w w1 : World} {p : Option Addr} {n c : Nat} {room kind oa ob : Int} {os ot : ByteArray} {t1 t2 t3 : TypeId}
    (hk : Keeps NoB (((w.alloc (.cells #[.slice p n c, .int .i64 room] t1)).alloc (.cells #[.int .i64 kind, .int .i64 oa, .int .i64 ob, .string os, .string ot] t2)).alloc (.cells #[.slice none 0 0, .int .i64 0] t3)) w1) : DBox w w1 p n c room kind oa ob os ot := by
  obtain ⟨a1, a2, a3, z1, z2, z3, z4⟩ := boxes3 hk
  exact ⟨a1 0 _ rfl, a1 1 _ rfl, a2 0 _ rfl, a2 1 _ rfl, a2 2 _ rfl, a2 3 _ rfl, a2 4 _ rfl, a3 0 _ rfl, a3 1 _ rfl, z1, z3, z4⟩

theorem DBox.keep {F : Nat → Prop} {w w1 w2 : World} {p : Option Addr} {n c : Nat} {room kind oa ob : Int} {os ot : ByteArray} (h : DBox w w1 p n c room kind oa ob os ot) (k : Keeps F w1 w2) (hA : ¬ F w.heap.size) (hB : ¬ F (w.heap.size + 1)) (hC : ¬ F (w.heap.size + 2)) :
    DBox w w2 p n c room kind oa ob os ot := by
  have l1 := lt_of_cell h.A0
  have l2 := lt_of_cell h.B0
  have l3 := lt_of_cell h.C0
  have := k.size
  exact ⟨(k.cell (p := ⟨w.heap.size, 0, none⟩) l1 hA).trans h.A0, (k.cell (p := ⟨w.heap.size, 1, none⟩) l1 hA).trans h.A1,
    (k.cell (p := ⟨w.heap.size + 1, 0, none⟩) l2 hB).trans h.B0, (k.cell (p := ⟨w.heap.size + 1, 1, none⟩) l2 hB).trans h.B1, (k.cell (p := ⟨w.heap.size + 1, 2, none⟩) l2 hB).trans h.B2, (k.cell (p := ⟨w.heap.size + 1, 3, none⟩) l2 hB).trans h.B3, (k.cell (p := ⟨w.heap.size + 1, 4, none⟩) l2 hB).trans h.B4,
    (k.cell (p := ⟨w.heap.size + 2, 0, none⟩) l3 hC).trans h.C0, (k.cell (p := ⟨w.heap.size + 2, 1, none⟩) l3 hC).trans h.C1,
    fun j => (k.frozen (p := ⟨w.heap.size, j, none⟩) l1 hA).trans (h.zA j), fun j => (k.frozen (p := ⟨w.heap.size + 2, j, none⟩) l3 hC).trans (h.zC j), by have := h.size; omega⟩

/-- do's own blocks are neither's. -/
def ND (N : Nat → Prop) (w : World) : Nat → Prop := fun x => N x ∨ x = w.heap.size ∨ x = w.heap.size + 1 ∨ x = w.heap.size + 2

/-- The nodes after a call. -/
noncomputable def stepD (d : Nds) (room : Int) (o : Op4) : Nds :=
  if o.kind = 1 then makeTo d room o.a o.b o.s else if o.kind = 2 then holdD d o.a else if o.kind = 3 then relD d o.a else if o.kind = 4 then chmodD d o.a o.b else if o.kind = 5 then writeTo d room o.a o.b o.s
  else if o.kind = 6 then emptyD d o.a else if o.kind = 7 then enterD d room o.a o.s o.b else if o.kind = 8 then leaveTo d o.a o.s else if o.kind = 9 then moveD d room o.a o.s o.b o.t else d

/-- What do leaves: both disks are the same, again. -/
def DoTo (N : Nat → Prop) (w : World) (a : Nat) (d' : Nds) (room : Int) : Ending → World → Prop := fun e w' =>
  ∃ p' c', e = .returned (.tuple #[refV p' c' d' room, .bool true]) ∧ Pair N w' a d' p' c' d' room ∧ Keeps (fun g => ¬ N g) w w'

section
variable {N : Nat → Prop} {w : World} {a : Nat} {d : Nds} {p : Option Addr} {c : Nat} {room : Int}

theorem do_end {w5 wF : World} {d' : Nds} {p5 : Option Addr} {c5 : Nat} (hp : Pair (ND N w) w5 a d' p5 c5 d' room) (hl : ∀ x, N x → x < w.heap.size) (hk : Keeps (fun g => ¬ N g) w w5) (kF : Keeps (fun b => b = w.heap.size ∨ b = w.heap.size + 2) w5 wF) :
    DoTo N w a d' room (.returned (.tuple #[refV p5 c5 d' room, .bool true])) wF :=
  ⟨p5, c5, rfl, (hp.keep kF (fun x _ hx => by rcases hx with e | e <;> first | exact .inr (.inl e) | exact .inr (.inr (.inr e)))).less (fun x hx => .inl hx), hk.trans (kF.mono (fun b _ hb hN => by have := hl b hN; omega))⟩

theorem do_start (h : Pair N w a d p c d room) {w3 : World} (k : Keeps NoB w w3) (hs : w.heap.size + 3 ≤ w3.heap.size) : Pair (ND N w) w3 a d p c d room :=
  h.grow k (fun x hx => by rcases hx with e | e | e | e <;> first | exact .inl e | (refine .inr ⟨?_, ?_⟩ <;> omega))

theorem nd_not {w4 w5 : World} {p : Option Addr} {n c : Nat} {room kind oa ob : Int} {os ot : ByteArray} (h : DBox w w4 p n c room kind oa ob os ot) (k : Keeps (fun g => ¬ ND N w g) w4 w5) : DBox w w5 p n c room kind oa ob os ot :=
  h.keep k (fun h => h (.inr (.inl rfl))) (fun h => h (.inr (.inr (.inl rfl)))) (fun h => h (.inr (.inr (.inr rfl))))

end

end Go.Proofs.YtbcejodnjeklpaaDoor

/-
  Layer 4's statements: rooted, loop, small.
-/
namespace Go.Proofs.YtbcejodnjeklpaaDoor
open Go.RowKit
set_option maxRecDepth 100000
set_option maxHeartbeats 2000000

section
variable {S : Nat → Prop} {w : World} {p : Option Addr} {c : Nat} {d : Nds} {room : Int}

/-- Would a directory come into one below it? -/
def LoopP (d : Nds) (o : Op4) : Prop := o.kind = 7 ∧ has d o.b ∧ (nd d o.b).kind = 2 ∧ folderErr d o.a = 0 ∧ Above d o.b o.a

end

end Go.Proofs.YtbcejodnjeklpaaDoor

/-
  Layer 4's statements: small, do of any call, what it does to the size.
-/
namespace Go.Proofs.YtbcejodnjeklpaaDoor
open Go.RowKit
set_option maxRecDepth 100000
set_option maxHeartbeats 2000000

def SmallOp (o : Op4) : Prop := o.s.size ≤ 300 ∧ o.t.size ≤ 300 ∧ (o.kind = 5 → 1000 < o.b → ¬ o.b < 4194304)
def Small (l : List Op4) : Prop := (∀ o ∈ l, SmallOp o) ∧ l.length ≤ 60

section
variable {N : Nat → Prop} {w : World} {a : Nat} {d : Nds} {p : Option Addr} {c : Nat} {room : Int}

end

theorem gc_mass (d : Nds) : mass (gc d) ≤ mass d := (gc_kills d).mass

/-- A call adds at most two. -/
theorem stepD_mass {d : Nds} (hI : DInv d) (room : Int) (o : Op4) : mass (stepD d room o) ≤ mass d + 2 := by
  have hup : ∀ i n, has d i → mass1 n ≤ mass1 (nd d i) + 1 → mass (upd d i n) ≤ mass d + 1 := fun i n hi hm => by
    have := mass_upd (n := n) hi
    omega
  unfold stepD
  split
  · unfold makeTo
    split
    · have := sumBy_append mass1 d (newNd o.a o.b o.s)
      have e : mass1 (newNd o.a o.b o.s) = 2 := rfl
      unfold mass
      omega
    · omega
  split
  · unfold holdD
    split
    · next hi =>
      have := hup o.a ((nd d o.a).setHolds ((nd d o.a).holds + 1)) hi (by unfold mass1; simp only [Nd.setHolds]; omega)
      unfold holdTo
      omega
    · omega
  split
  · unfold relD
    split
    · next he =>
      have hi : has d o.a := by
        unfold relErr at he
        split at he
        · cases he
        · next h => exact h
      have := hup o.a ((nd d o.a).setHolds ((nd d o.a).holds - 1)) hi (by unfold mass1; simp only [Nd.setHolds]; omega)
      have := gc_mass (relTo d o.a)
      unfold relTo at *
      omega
    · omega
  split
  · unfold chmodD
    split
    · next he =>
      have hi : has d o.a := by
        unfold chmodErr at he
        split at he
        · cases he
        · next h => exact h
      have := hup o.a ((nd d o.a).setMode o.b) hi (by unfold mass1; simp only [Nd.setMode]; omega)
      unfold chmodTo
      omega
    · omega
  split
  · unfold writeTo
    split
    · next he =>
      have hi : has d o.a := by
        have h1 := he.1
        unfold writeErr at h1
        split at h1
        · next e => exact absurd h1 e
        · next e => exact (fileErr_zero (Classical.not_not.1 e)).1
      have := hup o.a (writeNd (nd d o.a) o.b.toNat o.s) hi (by unfold mass1 writeNd; simp only [Nd.setData]; omega)
      omega
    · omega
  split
  · unfold emptyD
    split
    · next he =>
      have hi := (fileErr_zero he).1
      have := hup o.a ((nd d o.a).setData ⟨#[]⟩) hi (by unfold mass1; simp only [Nd.setData]; omega)
      unfold emptyTo
      omega
    · omega
  split
  · unfold enterD
    split
    · next he =>
      have hf : folderErr d o.a = 0 := by
        unfold enterErr at he
        split at he
        · next e => exact absurd he e
        · next e => exact Classical.not_not.1 e
      have hi := (folderErr_zero hf).1
      have hp : putErr (nd d o.a).ents o.s = 0 := by
        unfold enterErr at he
        rw [if_neg (by simpa using hf)] at he
        split at he; · cases he
        split at he; · cases he
        split at he; · cases he
        split at he
        · next e => exact absurd he e
        · next e => exact Classical.not_not.1 e
      have := enter_mass (k := o.b) hi hp
      omega
    · omega
  split
  · unfold leaveTo
    split
    · next he =>
      have h0 : lookErr d o.a o.s = 0 := by
        unfold leaveErr at he
        split at he
        · next e => exact absurd he e
        · next e => exact Classical.not_not.1 e
      obtain ⟨f0, hg⟩ := lookErr_zero h0
      have := drop_mass hI (folderErr_zero f0).1 hg
      have := gc_mass (dropTo d o.a o.s)
      omega
    · omega
  split
  · unfold moveD
    split
    · next he =>
      obtain ⟨he, hne⟩ := he
      have h0 : lookErr d o.a o.s = 0 := by
        refine Classical.byContradiction fun h => ?_
        rw [moveErr_look h] at he; exact h he
      have h1 : folderErr d o.b = 0 := by
        refine Classical.byContradiction fun h => ?_
        rw [moveErr_fold h0 h] at he; exact h he
      have h2 : ¬ ((nd d (lookOf d o.a o.s)).kind = 2 ∧ Above d (lookOf d o.a o.s) o.b) := fun h => by
        rw [moveErr_busy h0 h1 h] at he; cases he
      rw [moveErr_two h0 h1 h2] at he
      obtain ⟨f0, hg⟩ := lookErr_zero h0
      have M : MoveOk d o.a o.s o.b o.t (lookOf d o.a o.s) := MoveOk.mk' hI (folderErr_zero f0).2 (folderErr_zero h1).2 hg hne (fun hh => by
        have hn : entGet (nd d o.b).ents o.t = none := by
          cases hx : entGet (nd d o.b).ents o.t with
          | none => rfl
          | some y => rw [entGet_has hx] at hh; cases hh
        unfold moveErr2 at he
        rw [hn] at he
        unfold movedErr at he
        rw [hh] at he
        simp only [Bool.false_eq_true, if_false] at he
        split at he
        · next e => exact absurd he e
        · next e => exact Classical.not_not.1 e) (fun hk ha => h2 ⟨hk, ha⟩)
      have := M.mass
      have := gc_mass (moveTo d o.a o.s o.b o.t (lookOf d o.a o.s))
      omega
    · omega
  · omega

end Go.Proofs.YtbcejodnjeklpaaDoor

/-
  Layer 4's statements: what a law holds between the calls.
-/
namespace Go.Proofs.YtbcejodnjeklpaaDoor
open Go.RowKit
set_option maxRecDepth 100000
set_option maxHeartbeats 1000000

/-- A law holds both disks; the reference's lies in the variable X; what was there before the law, at W, is neither's. -/
structure LawAt (W w : World) (X a : Nat) (p : Option Addr) (c : Nat) (d : Nds) (room : Int) : Prop where
  pair : Pair (fun g => g < W.heap.size ∨ g = X) w a d p c d room
  X0 : w.cell? ⟨X, 0, none⟩ = some (.slice p d.length c)
  X1 : w.cell? ⟨X, 1, none⟩ = some (.int .i64 room)
  zX : ∀ j, w.frozen? ⟨X, j, none⟩ = false
  keeps : Keeps NoB W w
  new : W.heap.size ≤ X

theorem pair_new {W w : World} {a : Nat} {room : Int} (h : HereTo W w a newD room) :
    Calls Tryd.prog 17 #[.int .i64 room] w fun e w' => ∃ p c, e = .returned (refV p c newD room) ∧ Pair (fun g => g < W.heap.size) w' a newD p c newD room ∧ Keeps NoB W w' := by
  obtain ⟨R, h⟩ := h
  have hs := h.keeps.size
  refine (r4new_any (S := fun g => R.tag g = .none ∧ ¬ g < W.heap.size) w room (fun g hg => ⟨h.disk.tagTop g hg, by omega⟩)).mono ?_
  rintro e w' ⟨p, c, rfl, h1, h2⟩
  have := h2.size
  exact ⟨p, c, rfl, ⟨fun x hx => by omega, R, h.disk.keepN h2, h.tag, h1⟩, h.keeps.trans h2⟩

section
variable {W w w' : World} {X a : Nat} {p : Option Addr} {c : Nat} {d : Nds} {room : Int}

theorem LawAt.lt (h : LawAt W w X a p c d room) : X < w.heap.size := lt_of_cell h.X0
theorem LawAt.on (h : LawAt W w X a p c d room) (k : Keeps NoB w w') : LawAt W w' X a p c d room :=
  ⟨h.pair.on k, (k.cell (p := ⟨X, 0, none⟩) h.lt (fun h => h)).trans h.X0, (k.cell (p := ⟨X, 1, none⟩) h.lt (fun h => h)).trans h.X1, fun j => (k.frozen (p := ⟨X, j, none⟩) h.lt (fun h => h)).trans (h.zX j), h.keeps.trans k, h.new⟩

/-- The reference's disk is laid into its variable. -/
theorem LawAt.start (h : Pair (fun g => g < W.heap.size) w a d p c d room) (k : Keeps NoB W w) (T : TypeId) : LawAt W (w.alloc (.cells #[.slice p d.length c, .int .i64 room] T)) w.heap.size a p c d room := by
  have k1 : Keeps NoB w (w.alloc (.cells #[.slice p d.length c, .int .i64 room] T)) := (Keeps.refl _ _).alloc _
  have hk := Keeps.refl NoB (w.alloc (.cells #[.slice p d.length c, .int .i64 room] T))
  have := k.size
  exact ⟨h.grow k1 (fun x hx => by rcases hx with e | e; exact .inl e; exact .inr ⟨by omega, by rw [e]; simp⟩), boxed hk 0 _ rfl, boxed hk 1 _ rfl, boxedz hk, k.trans k1, this⟩

/-- do, in a law. -/
def LawDo (W : World) (X a : Nat) (p : Option Addr) (c : Nat) (d : Nds) (room : Int) (d' : Nds) (w0 : World) : Ending → World → Prop := fun e w3 =>
  ∃ p' c', e = .returned (.tuple #[refV p' c' d' room, .bool true]) ∧ w3.cell? ⟨X, 0, none⟩ = some (.slice p d.length c) ∧ w3.cell? ⟨X, 1, none⟩ = some (.int .i64 room) ∧ (∀ j, w3.frozen? ⟨X, j, none⟩ = false) ∧
    LawAt W ((w3.setCell ⟨X, 0, none⟩ (.slice p' d'.length c')).setCell ⟨X, 1, none⟩ (.int .i64 room)) X a p' c' d' room ∧ Keeps (fun g => ¬ (g < W.heap.size ∨ g = X)) w0 w3

end

end Go.Proofs.YtbcejodnjeklpaaDoor

/-
  Layer 4's statements: node.
-/
namespace Go.Proofs.YtbcejodnjeklpaaDoor
open Go.RowKit
set_option maxRecDepth 100000
set_option maxHeartbeats 2000000

/-- What a block of two, of five cells holds. -/
structure C2 (w : World) (g : Nat) (v0 v1 : Value) : Prop where
  lt : g < w.heap.size
  c0 : w.cell? ⟨g, 0, none⟩ = some v0
  c1 : w.cell? ⟨g, 1, none⟩ = some v1
structure C5 (w : World) (g : Nat) (v0 v1 v2 v3 v4 : Value) : Prop where
  lt : g < w.heap.size
  c0 : w.cell? ⟨g, 0, none⟩ = some v0
  c1 : w.cell? ⟨g, 1, none⟩ = some v1
  c2 : w.cell? ⟨g, 2, none⟩ = some v2
  c3 : w.cell? ⟨g, 3, none⟩ = some v3
  c4 : w.cell? ⟨g, 4, none⟩ = some v4
theorem C2.on {w w' : World} {g : Nat} {v0 v1 : Value} (h : C2 w g v0 v1) (k : Keeps NoB w w') : C2 w' g v0 v1 :=
  ⟨Nat.lt_of_lt_of_le h.lt k.size, (k.cell (p := ⟨g, 0, none⟩) h.lt (fun h => h)).trans h.c0, (k.cell (p := ⟨g, 1, none⟩) h.lt (fun h => h)).trans h.c1⟩
theorem C5.on {w w' : World} {g : Nat} {v0 v1 v2 v3 v4 : Value} (h : C5 w g v0 v1 v2 v3 v4) (k : Keeps NoB w w') : C5 w' g v0 v1 v2 v3 v4 :=
  ⟨Nat.lt_of_lt_of_le h.lt k.size, (k.cell (p := ⟨g, 0, none⟩) h.lt (fun h => h)).trans h.c0, (k.cell (p := ⟨g, 1, none⟩) h.lt (fun h => h)).trans h.c1, (k.cell (p := ⟨g, 2, none⟩) h.lt (fun h => h)).trans h.c2,
    (k.cell (p := ⟨g, 3, none⟩) h.lt (fun h => h)).trans h.c3, (k.cell (p := ⟨g, 4, none⟩) h.lt (fun h => h)).trans h.c4⟩
theorem c2_new {w w1 : World} {v0 v1 : Value} {T : TypeId} (k : Keeps NoB (w.alloc (.cells #[v0, v1] T)) w1) : C2 w1 w.heap.size v0 v1 :=
  ⟨Nat.lt_of_lt_of_le (by simp) k.size, boxed k 0 _ rfl, boxed k 1 _ rfl⟩
theorem c5_new {w w1 : World} {v0 v1 v2 v3 v4 : Value} {T : TypeId} (k : Keeps NoB (w.alloc (.cells #[v0, v1, v2, v3, v4] T)) w1) : C5 w1 w.heap.size v0 v1 v2 v3 v4 :=
  ⟨Nat.lt_of_lt_of_le (by simp) k.size, boxed k 0 _ rfl, boxed k 1 _ rfl, boxed k 2 _ rfl, boxed k 3 _ rfl, boxed k 4 _ rfl⟩

section
variable {R : RD} {S : Nat → Prop} {w : World} {a : Nat} {d : Nds} {p : Option Addr} {c : Nat} {room : Int} {lk up : Int → Int}

end

end Go.Proofs.YtbcejodnjeklpaaDoor

/-
  The statements of layer 5: their nodes, small.
-/
set_option maxRecDepth 100000
set_option maxHeartbeats 2000000
namespace Go.Proofs.YtbcejodnjeklpaaDoor
open Go Go.RowKit

def encN5 : Enc N5 where
  enc := fun o => [.int .i64 o.at', .string o.name, .int .i64 o.kind, .int .i64 o.mode, .string o.data]
  k := 5
  pos := by decide
  len := fun _ => rfl
  one := fun x v hv => by simp at hv; rcases hv with rfl | rfl | rfl | rfl | rfl <;> rfl

theorem SlAt.n5 {S : Nat → Prop} {w : World} {p : Option Addr} {c : Nat} {l : List N5} (h : SlAt encN5 S w p c l) {i : Nat} {x : N5} (hi : l[i]? = some x) :
    ∃ g off, p = some ⟨g, off, none⟩ ∧ S g ∧ g < w.heap.size ∧ w.cell? ⟨g, off + i * 5, none⟩ = some (.int .i64 x.at') ∧ w.cell? ⟨g, off + i * 5 + 1, none⟩ = some (.string x.name) ∧
      w.cell? ⟨g, off + i * 5 + 2, none⟩ = some (.int .i64 x.kind) ∧ w.cell? ⟨g, off + i * 5 + 3, none⟩ = some (.int .i64 x.mode) ∧ w.cell? ⟨g, off + i * 5 + 4, none⟩ = some (.string x.data) := by
  obtain ⟨g, off, hp, hS, hg, hc⟩ := h.at hi
  exact ⟨g, off, hp, hS, hg, hc 0 _ rfl, (by have := hc 1 _ rfl; rwa [← Nat.add_assoc] at this), (by have := hc 2 _ rfl; rwa [← Nat.add_assoc] at this), (by have := hc 3 _ rfl; rwa [← Nat.add_assoc] at this), (by have := hc 4 _ rfl; rwa [← Nat.add_assoc] at this)⟩

def SmallN (o : N5) : Prop := o.name.size ≤ 300 ∧ o.data.size ≤ 5000
def Small5 (l : List N5) : Prop := (∀ o ∈ l, SmallN o) ∧ l.length ≤ 40

theorem small5_any {S : Nat → Prop} {w : World} {p : Option Addr} {c : Nat} {l : List N5} (h : SlAt encN5 S w p c l) :
    Calls Tryd.prog 8 #[.slice p l.length c] w fun e w' => SaysIf w w' e (Small5 l) := by
  have hcap := h.cap
  have hmax := h.max
  unfold maxLen at hmax
  go_enter Tryd.func8, Tryd.ntmps8
  go_wp2
  go_loopw [7] (fun s wr => ∃ n : Nat, n ≤ l.length ∧ s = .int .i64 n ∧ (∀ j o, j < n → l[j]? = some o → SmallN o) ∧ Keeps NoB w wr) (fun s _ => l.length + 1 - (intOf s).toNat)
  case atStart => exact ⟨0, Nat.zero_le _, rfl, fun j o hj => by omega, Keeps.refl _ _⟩
  case round =>
    rename_i wr
    obtain ⟨n, hn, rfl, hall, hk⟩ := hrel
    have Hall := Lib.hid hall
    have Hk := Lib.hid hk
    clear hall hk
    by_cases hlt : n < l.length
    · obtain ⟨o, hx⟩ : ∃ o, l[n]? = some o := ⟨_, List.getElem?_eq_getElem hlt⟩
      obtain ⟨g, off, rfl, hS, hg, c0, c1, c2, c3, c4⟩ := (h.keepN Hk.out).n5 hx
      have Hx := Lib.hid hx
      have hneg : ¬ SmallN o → ¬ Small5 l := fun h1 h2 => h1 (h2.1 o (List.mem_of_getElem? hx))
      have Hneg := Lib.hid hneg
      clear hx hneg
      by_cases d1 : 300 < o.name.size
      · have d1' : (300 : Int) < (o.name.size : Int) := by omega
        go_wp2
        go_ret
        exact ⟨false, rfl, ⟨(fun h => by cases h), fun h => absurd h (Hneg.out (fun h => by have := h.1; omega))⟩, Hk.out.alloc _⟩
      have d1' : ¬ ((300 : Int) < (o.name.size : Int)) := by omega
      by_cases d2 : 5000 < o.data.size
      · have d2' : (5000 : Int) < (o.data.size : Int) := by omega
        go_wp2
        go_ret
        exact ⟨false, rfl, ⟨(fun h => by cases h), fun h => absurd h (Hneg.out (fun h => by have := h.2; omega))⟩, Hk.out.alloc _⟩
      have d2' : ¬ ((5000 : Int) < (o.data.size : Int)) := by omega
      have hgo : ∀ j x, j < n + 1 → l[j]? = some x → SmallN x := fun j x hj hx => by
        by_cases e : j = n
        · subst e; rw [Hx.out] at hx; cases hx; exact ⟨by omega, by omega⟩
        · exact Hall.out j x (by omega) hx
      have Hgo := Lib.hid hgo
      clear hgo
      go_wp2
      go_roundw
      case rel => exact ⟨n + 1, by omega, by go_num, Hgo.out, Hk.out.alloc _⟩
      case measure => simp [intOf]; omega
    · obtain rfl : n = l.length := by omega
      have HY : Hid (Small5 l ↔ l.length ≤ 40) := ⟨fun h => h.2, fun h => ⟨fun o ho => by
        obtain ⟨j, hj⟩ := List.mem_iff_getElem?.1 ho
        exact Hall.out j o (List.getElem?_eq_some_iff.1 hj).1 hj, h⟩⟩
      go_wp2
      go_ret
      refine ⟨decide (l.length ≤ 40), ?_, ?_, Hk.out⟩
      · exact ret_bool (by simp; omega)
      · rw [HY.out]; simp

end Go.Proofs.YtbcejodnjeklpaaDoor

/-
  The nodes of layer 5's statements, opened.
-/
set_option maxRecDepth 100000
namespace Go.Proofs.YtbcejodnjeklpaaDoor
open Go.RowKit Go.ChangeShapes Go.WideShapes Go.ChangeAt

theorem cells_int5 : Tryd.prog.cellsOf 3 = 1 := by kernel_rfl
theorem cells_string5 : Tryd.prog.cellsOf 9 = 1 := by kernel_rfl

theorem open_n5 {H : Type} {enc : TypeId × Value → H} {W : World} {p : Option Addr} {len cap : Nat} {d : DataW H} {ps : List MemPlace}
    (h : DataW.Trod enc Tryd.prog W 0 (fun _ => true) true 22 (.slice p len cap) d ps) :
    ∃ l : List N5, len = l.length ∧ SlAt encN5 (fun g => g < W.heap.size) W p cap l ∧ ∀ o ∈ l, o.name.size ≤ maxLen := by
  refine open_sl encN5 Tryd.underlying22 (by kernel_rfl) h fun n cs y hl hy => ?_
  match cs, hl with
  | [v0, v1, v2, v3, v4], _ =>
    obtain ⟨xs, n', _, _, _, hlen, hf⟩ := DataW.trod_struct Tryd.underlying42 hy
    match xs, hlen with
    | [y0, y1, y2, y3, y4], _ =>
      have h0 := hf 0 _ rfl
      have h1 := hf 1 _ rfl
      have h2 := hf 2 _ rfl
      have h3 := hf 3 _ rfl
      have h4 := hf 4 _ rfl
      simp only [List.getElem_toArray, List.getElem_cons_zero, List.getElem_cons_succ, cells_int5, cells_string5, List.drop_zero, List.drop_succ_cons, List.take_succ_cons, List.take_zero] at h0 h1 h2 h3 h4
      obtain ⟨a, ha, _, _⟩ := DataW.trod_int Tryd.underlying3 h0
      obtain ⟨b, hb, _, hz⟩ := DataW.trod_string Tryd.underlying9 h1
      obtain ⟨c, hc, _, _⟩ := DataW.trod_int Tryd.underlying3 h2
      obtain ⟨d, hd, _, _⟩ := DataW.trod_int Tryd.underlying3 h3
      obtain ⟨e, he, _, _⟩ := DataW.trod_string Tryd.underlying9 h4
      simp only [List.cons.injEq, and_true] at ha hb hc hd he
      subst ha hb hc hd he
      exact ⟨⟨a, b, c, d, e⟩, rfl, hz⟩

end Go.Proofs.YtbcejodnjeklpaaDoor
