/-
  Contracts of the reference for layer 4: Write.
-/
import Derived.Test.YtbcejodnjeklpaaDoorB18
import Derived.Test.YtbcejodnjeklpaaDoorB10
import Derived.StillTailTactics
import Derived.Test.YtbcejodnjeklpaaDoorB17
import Derived.Test.YtbcejodnjeklpaaDoorB11

set_option linter.unusedSimpArgs false
set_option linter.unusedVariables false

namespace Go.Proofs.YtbcejodnjeklpaaDoor
open Go.RowKit
set_option maxRecDepth 100000
set_option maxHeartbeats 2000000

theorem wr_sum {X L : Nat} (hX : X + L ≤ 4194304) : wrap64 ((X : Int) + (L : Int)) = (X : Int) + (L : Int) ∧ ¬ ((4194304 : Int) < (X : Int)) ∧ ¬ ((4194304 : Int) < (X : Int) + (L : Int)) := ⟨IntWalk.wrap64_in _ (by omega), by omega, by omega⟩
theorem wr_sum2 {x : Int} {L : Nat} (h0 : ¬ x < 0) (h1 : ¬ 4194304 < x) (hL : L ≤ 4294967296) (h : 4194304 - x < L) : wrap64 (x + (L : Int)) = x + (L : Int) ∧ 4194304 < x + (L : Int) := ⟨IntWalk.wrap64_in _ (by omega), by omega⟩

/-- The end lies behind. -/
theorem wr_past {u n X L : Nat} (hul : (u : Int) ≤ 9007199254740992) (hX : X + L ≤ 4194304) (hn : n ≤ 4194304) (h : n < X + L) : (n : Int) < (X : Int) + (L : Int) ∧ max n (X + L) = X + L ∧
    wrap64 ((u : Int) + ((X : Int) + (L : Int))) = (u : Int) + ((X : Int) + (L : Int)) ∧ wrap64 ((u : Int) + ((X : Int) + (L : Int)) - (n : Int)) = (u : Int) + ((X : Int) + (L : Int)) - (n : Int) :=
  ⟨by omega, by omega, IntWalk.wrap64_in _ (by omega), IntWalk.wrap64_in _ (by omega)⟩
/-- The end stays. -/
theorem wr_in {u n X L : Nat} (hul : (u : Int) ≤ 9007199254740992) (hn : n ≤ 4194304) (h : ¬ n < X + L) : ¬ ((n : Int) < (X : Int) + (L : Int)) ∧ max n (X + L) = n ∧
    wrap64 ((u : Int) + (n : Int)) = (u : Int) + (n : Int) ∧ wrap64 (u : Int) = (u : Int) :=
  ⟨by omega, by omega, IntWalk.wrap64_in _ (by omega), IntWalk.wrap64_in _ (by omega)⟩

section
variable {S : Nat → Prop} {w : World} {p : Option Addr} {c : Nat} {d : Nds} {room : Int}

end

end Go.Proofs.YtbcejodnjeklpaaDoor

/-
  Contracts of the reference for layer 4: Write where it succeeds.
-/
namespace Go.Proofs.YtbcejodnjeklpaaDoor
open Go.RowKit
set_option maxRecDepth 100000
set_option maxHeartbeats 2000000

theorem NBox.set3 {w1 w2 : World} {v0 v1 v2 v3 v4 : Value} (h : NBox w1 w2 v0 v1 v2 v3 v4) (v : Value) : NBox w1 (w2.setCell ⟨w1.heap.size, 3, none⟩ v) v0 v1 v2 v v4 := by
  have h0 := cell_set (g := w1.heap.size) (k := 3) (u := v) (j := 0) h.N0
  have h1 := cell_set (g := w1.heap.size) (k := 3) (u := v) (j := 1) h.N1
  have h2 := cell_set (g := w1.heap.size) (k := 3) (u := v) (j := 2) h.N2
  have h3 := cell_set (g := w1.heap.size) (k := 3) (u := v) (j := 3) h.N3
  have h4 := cell_set (g := w1.heap.size) (k := 3) (u := v) (j := 4) h.N4
  rw [if_neg (by decide)] at h0 h1 h2 h4
  rw [if_pos rfl] at h3
  exact ⟨h0, h1, h2, h3, h4, fun j => (frozen_set _ _ _ _).trans (h.zN j)⟩

/-- The method's variables, with more bytes. -/
def FarAt (w w1 wx : World) (p : Option Addr) (n c : Nat) (room : Int) (v0 v1 v2 v3 v4 : Value) : Prop := RBox w wx p n c room ∧ NBox w1 wx v0 v1 v2 v3 v4
theorem far_at {w w1 wx : World} {p : Option Addr} {n c : Nat} {room : Int} {v0 v1 v2 v3 v4 : Value} (hs : w.heap.size + 2 ≤ w1.heap.size) (B : RBox w wx p n c room) (N : NBox w1 wx v0 v1 v2 v3 v4) (v : Value) :
    FarAt w w1 (wx.setCell ⟨w1.heap.size, 3, none⟩ v) p n c room v0 v1 v2 v v4 := ⟨B.set hs 3 v, N.set3 v⟩

theorem wr_cases {n X L : Nat} : n < X ∨ (X ≤ n ∧ n < X + L) ∨ X + L < n ∨ X + L = n := by omega
theorem wr_ne {n X L : Nat} (h : X + L ≤ n) : ¬ n < X + L := by omega
theorem wr_edge {n X L : Nat} (h : X + L = n) : X ≤ n ∧ n ≤ X + L := by omega
theorem wr_nlt {n X L : Nat} (h : X + L = n) : ¬ ((X : Int) + (L : Int) < (n : Int)) := by omega
theorem wr_nlt2 {n X : Nat} (h : X ≤ n) : ¬ ((n : Int) < (X : Int)) := by omega
theorem wr_nr {n X L : Nat} (h : ((n : Int) < (X : Int) + (L : Int))) : ¬ ((X : Int) + (L : Int) < (n : Int)) := by omega
theorem wr_sub {n X L : Nat} (hX : X + L ≤ 4194304) (h : n < X) : wrap64 ((X : Int) - (n : Int)) = ((X - n : Nat) : Int) := by rw [IntWalk.wrap64_in _ (by omega)]; omega
theorem wr_subk {n X L : Nat} (hX : X + L ≤ 4194304) (h : n < X) : IntKind.i64.wrap ((X : Int) - (n : Int)) = ((X - n : Nat) : Int) := by rw [IntKind.wrap_i64]; omega
theorem wr_nz {n X L : Nat} (hX : X + L ≤ 4194304) (h : n < X) : (9223372036854775807 < n + (noughts (X - n)).size) = False := by rw [noughts_size]; simp; omega
theorem wr_nle {n X L : Nat} (hX : X + L ≤ 4194304) : X - n ≤ 4294967296 := by omega
theorem wr_gs {D : ByteArray} {X : Nat} (h : D.size < X) : (D ++ noughts (X - D.size)).size = X := by rw [ByteArray.size_append, noughts_size]; omega
theorem wr_nf {n X L : Nat} (h : ¬ ((n : Int) < (X : Int) + (L : Int))) : ¬ ((n : Int) < (X : Int)) := by omega

section
variable {S : Nat → Prop} {w : World} {p : Option Addr} {c : Nat} {d : Nds} {room : Int}

theorem write_put (h : RefAt S w p c d) (hS : ∀ g, w.heap.size ≤ g → S g) {k : Nat} (hk : k < d.length) {w2 : World} (hk2 : Keeps NoB w w2) (hsz : w.heap.size + 2 ≤ w2.heap.size) (hl : d.length ≤ 4294967296) {g off m X : Nat} {q : Option Addr} {s : ByteArray} (hrow : RowAt S w g off k (nd d (k : Int)) q m)
    (D' : ByteArray) (hD : D' = over ((nd d (k : Int)).data ++ noughts (max (nd d (k : Int)).data.size (X + s.size) - (nd d (k : Int)).data.size)) X s) :
    Calls Tryd.prog 47 #[.agg #[.slice p d.length c, .int .i64 room], .int .i64 k, .agg #[.int .i64 (nd d (k : Int)).kind, .int .i64 (nd d (k : Int)).mode, .int .i64 (nd d (k : Int)).holds, .string D', .slice q (nd d (k : Int)).ents.length m]] w2 fun e w' =>
      ∃ p' c', e = .returned (.agg #[.slice p' d.length c', .int .i64 room]) ∧ RefAt (But2 S w) w' p' c' (upd d (k : Int) (writeNd (nd d (k : Int)) X s)) ∧ Keeps NoB w2 w' := by
  subst hD
  refine (r4put_any (S := But2 S w) (room := room) (h.but2 hk2) (but2_new hS hsz) k hk hl (writeNd (nd d (k : Int)) X s) q m (hrow.sl.keepS hk2 (fun _ _ _ h => h) (fun g hg hl => ⟨hg, by omega, by omega⟩))).mono ?_
  rintro e w' ⟨v', rfl, ⟨p', c', rfl, href⟩, hk'⟩
  exact ⟨p', c', by unfold refV; rw [upd_length], href, hk'⟩

end

end Go.Proofs.YtbcejodnjeklpaaDoor

/-
  Contracts of the reference for layer 4: Write, all of it.
-/
namespace Go.Proofs.YtbcejodnjeklpaaDoor
open Go.RowKit
set_option maxRecDepth 100000
set_option maxHeartbeats 1000000

section
variable {S : Nat → Prop} {w : World} {p : Option Addr} {c : Nat} {d : Nds} {room : Int}

theorem fit_iff {a u m : Int} : (a - u < m) ↔ (a < u + m) := by omega

end

end Go.Proofs.YtbcejodnjeklpaaDoor

/-
  Layer 4's statements: the program's disk and the reference's, side by side.
-/
namespace Go.Proofs.YtbcejodnjeklpaaDoor
open Go.RowKit
set_option maxRecDepth 100000
set_option maxHeartbeats 1000000

/-- Both disks lie in memory, and touch none of the blocks N. -/
structure Pair (N : Nat → Prop) (w : World) (a : Nat) (dp : Nds) (p : Option Addr) (c : Nat) (dr : Nds) (room : Int) : Prop where
  low : ∀ x, N x → x < w.heap.size
  both : ∃ R : RD, IsDisk R w a dp room ∧ (∀ x, N x → R.tag x = .none) ∧ RefAt (fun g => R.tag g = .none ∧ ¬ N g) w p c dr

section
variable {N : Nat → Prop} {w w' : World} {a : Nat} {dp dr : Nds} {p : Option Addr} {c : Nat} {room : Int}

theorem Pair.inv (h : Pair N w a dp p c dr room) : DInv dp := by obtain ⟨R, h1, _⟩ := h.both; exact h1.inv
theorem Pair.clean (h : Pair N w a dp p c dr room) : NoGarb dp := by obtain ⟨R, h1, _⟩ := h.both; exact h1.clean
theorem Pair.small (h : Pair N w a dp p c dr room) : smallD dp := by obtain ⟨R, h1, _⟩ := h.both; exact h1.small

theorem IsDisk.tagTop {R : RD} {d : Nds} (h : IsDisk R w a d room) : ∀ x, w.heap.size ≤ x → R.tag x = .none := by
  obtain ⟨⟨lk, up, hC⟩, _, _, _⟩ := h
  exact hC.rep.top

/-- Only what is new, or neither's, has turned. -/
theorem Pair.keep {F : Nat → Prop} (h : Pair N w a dp p c dr room) (k : Keeps F w w') (hF : ∀ x, x < w.heap.size → F x → N x) : Pair N w' a dp p c dr room := by
  obtain ⟨R, h1, h2, h3⟩ := h.both
  have := k.size
  exact ⟨fun x hx => Nat.lt_of_lt_of_le (h.low x hx) this, R, h1.keep k (fun x hl hx => h2 x (hF x hl hx)), h2, h3.keepS k (fun g hg hl hx => hg.2 (hF g hl hx)) (fun g hg _ => hg)⟩
theorem Pair.on (h : Pair N w a dp p c dr room) (k : Keeps NoB w w') : Pair N w' a dp p c dr room := h.keep k (fun _ _ hx => hx.elim)

/-- More blocks that are neither's: new ones. -/
theorem Pair.grow {N' : Nat → Prop} (h : Pair N w a dp p c dr room) (k : Keeps NoB w w') (hN : ∀ x, N' x → N x ∨ (w.heap.size ≤ x ∧ x < w'.heap.size)) : Pair N' w' a dp p c dr room := by
  obtain ⟨R, h1, h2, h3⟩ := h.both
  have hs := k.size
  refine ⟨fun x hx => ?_, R, h1.keepN k, fun x hx => ?_, h3.keepS k (fun _ _ _ h => h) (fun g hg hl => ⟨hg.1, fun hx => ?_⟩)⟩
  · rcases hN x hx with h4 | h4
    · exact Nat.lt_of_lt_of_le (h.low x h4) hs
    · exact h4.2
  · rcases hN x hx with h4 | h4
    · exact h2 x h4
    · exact h1.tagTop x h4.1
  · rcases hN g hx with h4 | h4
    · exact hg.2 h4
    · omega

theorem Pair.less {N' : Nat → Prop} (h : Pair N w a dp p c dr room) (hN : ∀ x, N' x → N x) : Pair N' w a dp p c dr room := by
  obtain ⟨R, h1, h2, h3⟩ := h.both
  exact ⟨fun x hx => h.low x (hN x hx), R, h1, fun x hx => h2 x (hN x hx), h3.keepS (Keeps.refl NoB w) (fun _ _ _ h => h) (fun g hg _ => ⟨hg.1, fun hx => hg.2 (hN g hx)⟩)⟩

/-- A call of the program's disk. -/
theorem Pair.prog {d' : Nds} {f : Nat} {args : Array Value} {E : Ending} (h : Pair N w a dp p c dr room) (hc : ∀ R, IsDisk R w a dp room → Calls Tryd.prog f args w fun e w' => e = E ∧ DiskTo R w a d' room w') :
    Calls Tryd.prog f args w fun e w' => e = E ∧ Pair N w' a d' p c dr room ∧ Keeps (fun g => ¬ N g) w w' := by
  obtain ⟨R, h1, h2, h3⟩ := h.both
  refine (hc R h1).mono ?_
  rintro e w' ⟨rfl, R', h4, h5⟩
  have hs := h5.keeps.size
  refine ⟨rfl, ⟨fun x hx => Nat.lt_of_lt_of_le (h.low x hx) hs, R', h4, fun x hx => by rw [h5.same x (h.low x hx)]; exact h2 x hx, ?_⟩, h5.keeps.mono (fun x _ hx hN => hx (h2 x hN))⟩
  exact h3.keepS h5.keeps (fun g hg _ hx => hx hg.1) (fun g hg hl => ⟨by rw [h5.same g hl]; exact hg.1, hg.2⟩)

/-- A call of the reference. -/
theorem Pair.ref {d' : Nds} {f : Nat} {args : Array Value} {E : Option Addr → Nat → Ending} (h : Pair N w a dp p c dr room)
    (hc : ∀ S, RefAt S w p c dr → (∀ g, w.heap.size ≤ g → S g) → Calls Tryd.prog f args w fun e w' => ∃ p' c', e = E p' c' ∧ RefAt S w' p' c' d' ∧ Keeps NoB w w') :
    Calls Tryd.prog f args w fun e w' => ∃ p' c', e = E p' c' ∧ Pair N w' a dp p' c' d' room ∧ Keeps NoB w w' := by
  obtain ⟨R, h1, h2, h3⟩ := h.both
  refine (hc _ h3 (fun g hg => ⟨h1.tagTop g hg, fun hx => by have := h.low g hx; omega⟩)).mono ?_
  rintro e w' ⟨p', c', rfl, h4, h5⟩
  have hs := h5.size
  exact ⟨p', c', rfl, ⟨fun x hx => Nat.lt_of_lt_of_le (h.low x hx) hs, R, h1.keepN h5, h2, h4⟩, h5⟩

/-- A call that only reads. -/
theorem Pair.asks {f : Nat} {args : Array Value} {Q : Ending → World → Prop} (h : Pair N w a dp p c dr room)
    (hc : ∀ S, RefAt S w p c dr → Calls Tryd.prog f args w Q) : Calls Tryd.prog f args w Q := by
  obtain ⟨R, h1, h2, h3⟩ := h.both
  exact hc _ h3
theorem Pair.tells {f : Nat} {args : Array Value} {Q : Ending → World → Prop} (h : Pair N w a dp p c dr room)
    (hc : ∀ R lk up, Rep R w a dp room (used dp) lk up → Calls Tryd.prog f args w Q) : Calls Tryd.prog f args w Q := by
  obtain ⟨R, ⟨⟨lk, up, hC⟩, _, _, _⟩, h2, h3⟩ := h.both
  exact hc R lk up hC.rep

end

-- what a call makes of the nodes
noncomputable def relD (d : Nds) (i : Int) : Nds := if relErr d i = 0 then gc (relTo d i) else d
def holdD (d : Nds) (i : Int) : Nds := if has d i then holdTo d i else d
def hldErr (d : Nds) (i : Int) : Int := if has d i then 0 else 12
def chmodD (d : Nds) (i m : Int) : Nds := if chmodErr d i m = 0 then chmodTo d i m else d
def emptyD (d : Nds) (i : Int) : Nds := if fileErr d i = 0 then emptyTo d i else d

theorem holdTo_clean {d : Nds} (hI : DInv d) (hcl : NoGarb d) {i : Int} (hi : has d i) : gc (holdTo d i) = holdTo d i := by
  refine gc_same fun j hj => ?_
  obtain ⟨g1, g2, g3⟩ := hj
  have hr := has_range hi
  unfold holdTo at g1 g2 g3
  rw [links_same (n := (nd d i).setHolds ((nd d i).holds + 1)) hi rfl] at g2
  have g1' := (has_upd (n := (nd d i).setHolds ((nd d i).holds + 1)) hi hi j).1 g1
  rw [nd_upd hr.1 hr.2] at g3
  split at g3
  · have := (hI.node i).holds
    simp only [Nd.setHolds] at g3
    omega
  · exact hcl j ⟨g1', g2, g3⟩

section
variable {N : Nat → Prop} {w : World} {a : Nat} {d dp : Nds} {p : Option Addr} {c : Nat} {room : Int}

/-- What a call of the program's disk leaves. -/
def PTo (N : Nat → Prop) (w : World) (a : Nat) (d' : Nds) (p : Option Addr) (c : Nat) (dr : Nds) (room : Int) (v : Value) : Ending → World → Prop := fun e w' =>
  e = .returned v ∧ Pair N w' a d' p c dr room ∧ Keeps (fun g => ¬ N g) w w'
/-- What a call of the reference leaves. -/
def QTo (N : Nat → Prop) (w : World) (a : Nat) (dp : Nds) (d' : Nds) (room : Int) (v : Value → Value) : Ending → World → Prop := fun e w' =>
  ∃ p' c', e = .returned (v (refV p' c' d' room)) ∧ Pair N w' a dp p' c' d' room ∧ Keeps NoB w w'

theorem p_make {dr : Nds} (h : Pair N w a d p c dr room) (kind m : Int) (s : ByteArray) (hb : mass d + 2 ≤ 2147483648) (hsz : s.size ≤ 4294967296) :
    Calls Tryd.prog 19 #[.pointer (some ⟨a, 0, none⟩), .int .i64 kind, .int .i64 m, .string s] w (PTo N w a (makeTo d room kind m s) p c dr room (.tuple #[.int .i64 (makeId d room kind m s), .int .i64 (makeErr d room kind m s)])) :=
  h.prog fun R hR => makeD_any hR kind m s hb hsz
theorem q_make (h : Pair N w a dp p c d room) (hI : DInv d) (hs : smallD d) (kind m : Int) (s : ByteArray) (hsz : s.size ≤ 4294967296) :
    Calls Tryd.prog 20 #[refV p c d room, .int .i64 kind, .int .i64 m, .string s] w (QTo N w a dp (makeTo d room kind m s) room (fun v => .tuple #[v, .int .i64 (makeId d room kind m s), .int .i64 (makeErr d room kind m s)])) :=
  h.ref fun S hr hS => r4make_any hr hS hI hs kind m s hsz

theorem q_hold (h : Pair N w a dp p c d room) (hI : DInv d) (hcl : NoGarb d) (hs : mass d + 1 ≤ 2147483648) (i : Int) :
    Calls Tryd.prog 24 #[refV p c d room, .int .i64 i, .int .i64 1] w (QTo N w a dp (holdD d i) room (fun v => .tuple #[v, .int .i64 (hldErr d i)])) := by
  have := h.ref fun S hr hS => r4hold_any (room := room) hr hS hI hcl hs i 1 (.inl rfl)
  have e1 : holdErr d i 1 = hldErr d i := by
    unfold holdErr hldErr
    by_cases hi : has d i
    · rw [if_pos hi, if_pos ⟨hi, .inl (by decide)⟩]
    · rw [if_neg hi, if_neg (fun h => hi h.1)]
  have e2 : (if holdErr d i 1 = 0 then gc (holdBy d i 1) else d) = holdD d i := by
    rw [e1]
    unfold hldErr holdD
    by_cases hi : has d i
    · rw [if_pos hi, if_pos hi, if_pos rfl]; exact holdTo_clean hI hcl hi
    · rw [if_neg hi, if_neg hi, if_neg (by decide)]
  rw [e2, e1] at this
  exact this

theorem p_rel {dr : Nds} (h : Pair N w a d p c dr room) (i : Int) :
    Calls Tryd.prog 23 #[.pointer (some ⟨a, 0, none⟩), .int .i64 i] w (PTo N w a (relD d i) p c dr room (.int .i64 (relErr d i))) :=
  h.prog fun R hR => release_any hR i
theorem q_rel (h : Pair N w a dp p c d room) (hI : DInv d) (hcl : NoGarb d) (hs : mass d + 1 ≤ 2147483648) (i : Int) :
    Calls Tryd.prog 24 #[refV p c d room, .int .i64 i, .int .i64 (-1)] w (QTo N w a dp (relD d i) room (fun v => .tuple #[v, .int .i64 (relErr d i)])) := by
  have := h.ref fun S hr hS => r4hold_any (room := room) hr hS hI hcl hs i (-1) (.inr rfl)
  have e1 : holdErr d i (-1) = relErr d i := by
    unfold holdErr relErr has
    by_cases hi : (nd d i).kind = 0
    · rw [if_pos hi, if_neg (fun h => h.1 hi)]
    · by_cases hh : (nd d i).holds = 0
      · rw [if_neg hi, if_pos hh, if_neg (fun h => h.2.elim (by decide) (fun h => h hh))]
      · rw [if_neg hi, if_neg hh, if_pos ⟨hi, .inr hh⟩]
  rw [e1] at this
  exact this

theorem p_enter {dr : Nds} (h : Pair N w a d p c dr room) (i : Int) (name : ByteArray) (k : Int) (hsz : name.size ≤ 4294967296) (hb : mass d + 1 ≤ 2147483648) (hno : folderErr d i = 0 → (nd d k).kind = 2 → ¬ Above d k i) :
    Calls Tryd.prog 21 #[.pointer (some ⟨a, 0, none⟩), .int .i64 i, .string name, .int .i64 k] w (PTo N w a (enterD d room i name k) p c dr room (.int .i64 (enterErr d room i name k))) :=
  h.prog fun R hR => enterD_any hR i name k hsz hb hno
theorem q_enter (h : Pair N w a dp p c d room) (hI : DInv d) (hs : smallD d) (i : Int) (name : ByteArray) (k : Int) (hsz : name.size ≤ maxLen) :
    Calls Tryd.prog 22 #[refV p c d room, .int .i64 i, .string name, .int .i64 k] w (QTo N w a dp (enterD d room i name k) room (fun v => .tuple #[v, .int .i64 (enterErr d room i name k)])) :=
  h.ref fun S hr hS => r4enter_any hr hS hI hs i name k hsz

end

end Go.Proofs.YtbcejodnjeklpaaDoor
