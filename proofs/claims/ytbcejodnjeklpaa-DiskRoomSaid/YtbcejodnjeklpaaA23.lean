/-
  Contracts of the reference for layer 4: Move, all of it.
-/
import Derived.Test.YtbcejodnjeklpaaA19
import Derived.Test.YtbcejodnjeklpaaA21
import Derived.Test.YtbcejodnjeklpaaA22
import Derived.Test.YtbcejodnjeklpaaA11

set_option linter.unusedSimpArgs false
set_option linter.unusedVariables false

namespace Go.Proofs.Ytbcejodnjeklpaa
open Go.RowKit
set_option maxRecDepth 100000
set_option maxHeartbeats 1000000

section
variable {S : Nat → Prop} {w : World} {p : Option Addr} {c : Nat} {d : Nds} {room : Int}

theorem r4move_any (h : RefAt S w p c d) (hS : ∀ g, w.heap.size ≤ g → S g) (hI : DInv d) (hcl : NoGarb d) (hs : smallD d) (f : Int) (name : ByteArray) (t : Int) (other : ByteArray) (hos : other.size ≤ maxLen) :
    Calls Try.prog 28 #[refV p c d room, .int .i64 f, .string name, .int .i64 t, .string other] w (RTo S w (moveD d room f name t other) room (moveErr d room f name t other)) := by
  by_cases c0 : lookErr d f name = 0
  case neg =>
    rw [moveD_err (by rw [moveErr_look c0]; exact c0), moveErr_look c0]
    have := r4move_e1 (room := room) h hI hs f name t other (.inl c0)
    rw [if_pos c0] at this
    exact this
  case pos =>
  by_cases c1 : folderErr d t = 0
  case neg =>
    rw [moveD_err (by rw [moveErr_fold c0 c1]; exact c1), moveErr_fold c0 c1]
    have := r4move_e1 (room := room) h hI hs f name t other (.inr c1)
    rw [if_neg (by simpa using c0)] at this
    exact this
  case pos =>
  by_cases c2 : (nd d (lookOf d f name)).kind = 2 ∧ Above d (lookOf d f name) t
  · rw [moveD_err (by rw [moveErr_busy c0 c1 c2]; decide), moveErr_busy c0 c1 c2]
    exact r4move_e2 h hI hs f name t other _ c0 rfl c1 c2.1 c2.2
  · have e2 := moveErr_two (room := room) (other := other) c0 c1 c2
    have htop : (nd d (lookOf d f name)).kind = 2 → ¬ Above d (lookOf d f name) t := fun h2 ha => c2 ⟨h2, ha⟩
    obtain ⟨f0, hget⟩ := lookErr_zero c0
    obtain ⟨hf, hf2⟩ := folderErr_zero f0
    obtain ⟨ht, ht2⟩ := folderErr_zero c1
    cases ho : entGet (nd d t).ents other with
    | none =>
      have hnh : entHas (nd d t).ents other = false := by rw [← entGet_isSome, ho]; rfl
      have hE : moveErr2 d room t other name (lookOf d f name) = movedErr d room t other name := by unfold moveErr2; rw [ho]
      rw [hE] at e2
      have hM : movedErr d room t other name = if putErr (nd d t).ents other ≠ 0 then putErr (nd d t).ents other else if room - used d < (other.size : Int) - name.size then 20 else 0 := if_neg (by rw [hnh]; decide)
      by_cases hp : putErr (nd d t).ents other = 0
      case neg =>
        rw [if_pos hp] at hM
        rw [moveD_err (by rw [e2, hM]; exact hp), e2, hM]
        exact r4move_e6 h hS hI hs f name t other _ hos c0 rfl c1 htop ho hp
      case pos =>
        rw [if_neg (by simpa using hp)] at hM
        by_cases hr : room - used d < (other.size : Int) - name.size
        · rw [if_pos hr] at hM
          rw [moveD_err (by rw [e2, hM]; decide), e2, hM]
          exact r4move_e7 h hS hI hs f name t other _ hos c0 rfl c1 htop ho hp (by omega)
        · rw [if_neg hr] at hM
          have hD : moveD d room f name t other = gc (moveTo d f name t other (lookOf d f name)) := if_pos ⟨by rw [e2, hM], by rw [ho]; simp⟩
          rw [hD, e2, hM]
          exact r4move_put h hS hI hcl hs f name t other _ hos c0 rfl c1 htop ho hp (by omega)
    | some old =>
      by_cases c3 : old = lookOf d f name
      · have hE : moveErr2 d room t other name (lookOf d f name) = 0 := by unfold moveErr2; rw [ho]; exact if_pos c3
        have hD : moveD d room f name t other = d := if_neg (fun h => h.2 (by rw [ho, c3]))
        rw [hD, e2, hE]
        have := r4move_e3 (room := room) h hI hs f name t other _ old c0 rfl c1 htop ho (.inl c3)
        rw [if_pos c3] at this
        exact this
      · have hE : moveErr2 d room t other name (lookOf d f name) = givesErr d (lookOf d f name) old := by unfold moveErr2; rw [ho]; exact if_neg c3
        by_cases c4 : givesErr d (lookOf d f name) old = 0
        · have hne : entGet (nd d t).ents other ≠ some (lookOf d f name) := by rw [ho]; simpa using c3
          have hD : moveD d room f name t other = gc (moveTo d f name t other (lookOf d f name)) := if_pos ⟨by rw [e2, hE, c4], hne⟩
          rw [hD, e2, hE, c4]
          have M : MoveOk d f name t other (lookOf d f name) := MoveOk.mk' hI hf2 ht2 hget hne (fun h => by rw [entGet_has ho] at h; cases h) htop
          exact r4move_set h hS hI hcl hs f name t other _ old c0 rfl c1 M ho c3 c4
        · rw [moveD_err (by rw [e2, hE]; exact c4), e2, hE]
          have := r4move_e3 (room := room) h hI hs f name t other _ old c0 rfl c1 htop ho (.inr c4)
          rw [if_neg c3] at this
          exact this

end

end Go.Proofs.Ytbcejodnjeklpaa

/-
  Layer 4's statements: the program's disk and the reference's, side by side.
-/
namespace Go.Proofs.Ytbcejodnjeklpaa
open Go.RowKit
set_option maxRecDepth 100000
set_option maxHeartbeats 1000000

/-- Both disks lie in memory, and touch none of the blocks N. -/
structure Pair (N : Nat → Prop) (w : World) (a : Nat) (dp : Nds) (p : Option Addr) (c : Nat) (dr : Nds) (room : Int) : Prop where
  low : ∀ x, N x → x < w.heap.size
  both : ∃ R : RD, IsDisk R w a dp room ∧ (∀ x, N x → R.tag x = .none) ∧ RefAt (fun g => R.tag g = .none ∧ ¬ N g) w p c dr

section
variable {N : Nat → Prop} {w w' : World} {a : Nat} {dp dr : Nds} {p : Option Addr} {c : Nat} {room : Int}

theorem Pair.inv (h : Pair N w a dp p c dr room) : DInv dp := by obtain ⟨R, h1, _⟩ := h.both; exact h1.inv
theorem Pair.clean (h : Pair N w a dp p c dr room) : NoGarb dp := by obtain ⟨R, h1, _⟩ := h.both; exact h1.clean
theorem Pair.small (h : Pair N w a dp p c dr room) : smallD dp := by obtain ⟨R, h1, _⟩ := h.both; exact h1.small

theorem IsDisk.tagTop {R : RD} {d : Nds} (h : IsDisk R w a d room) : ∀ x, w.heap.size ≤ x → R.tag x = .none := by
  obtain ⟨⟨lk, up, hC⟩, _, _, _⟩ := h
  exact hC.rep.top

/-- Only what is new, or neither's, has turned. -/
theorem Pair.keep {F : Nat → Prop} (h : Pair N w a dp p c dr room) (k : Keeps F w w') (hF : ∀ x, x < w.heap.size → F x → N x) : Pair N w' a dp p c dr room := by
  obtain ⟨R, h1, h2, h3⟩ := h.both
  have := k.size
  exact ⟨fun x hx => Nat.lt_of_lt_of_le (h.low x hx) this, R, h1.keep k (fun x hl hx => h2 x (hF x hl hx)), h2, h3.keepS k (fun g hg hl hx => hg.2 (hF g hl hx)) (fun g hg _ => hg)⟩
theorem Pair.on (h : Pair N w a dp p c dr room) (k : Keeps NoB w w') : Pair N w' a dp p c dr room := h.keep k (fun _ _ hx => hx.elim)

/-- More blocks that are neither's: new ones. -/
theorem Pair.grow {N' : Nat → Prop} (h : Pair N w a dp p c dr room) (k : Keeps NoB w w') (hN : ∀ x, N' x → N x ∨ (w.heap.size ≤ x ∧ x < w'.heap.size)) : Pair N' w' a dp p c dr room := by
  obtain ⟨R, h1, h2, h3⟩ := h.both
  have hs := k.size
  refine ⟨fun x hx => ?_, R, h1.keepN k, fun x hx => ?_, h3.keepS k (fun _ _ _ h => h) (fun g hg hl => ⟨hg.1, fun hx => ?_⟩)⟩
  · rcases hN x hx with h4 | h4
    · exact Nat.lt_of_lt_of_le (h.low x h4) hs
    · exact h4.2
  · rcases hN x hx with h4 | h4
    · exact h2 x h4
    · exact h1.tagTop x h4.1
  · rcases hN g hx with h4 | h4
    · exact hg.2 h4
    · omega

theorem Pair.less {N' : Nat → Prop} (h : Pair N w a dp p c dr room) (hN : ∀ x, N' x → N x) : Pair N' w a dp p c dr room := by
  obtain ⟨R, h1, h2, h3⟩ := h.both
  exact ⟨fun x hx => h.low x (hN x hx), R, h1, fun x hx => h2 x (hN x hx), h3.keepS (Keeps.refl NoB w) (fun _ _ _ h => h) (fun g hg _ => ⟨hg.1, fun hx => hg.2 (hN g hx)⟩)⟩

/-- A call of the program's disk. -/
theorem Pair.prog {d' : Nds} {f : Nat} {args : Array Value} {E : Ending} (h : Pair N w a dp p c dr room) (hc : ∀ R, IsDisk R w a dp room → Calls Try.prog f args w fun e w' => e = E ∧ DiskTo R w a d' room w') :
    Calls Try.prog f args w fun e w' => e = E ∧ Pair N w' a d' p c dr room ∧ Keeps (fun g => ¬ N g) w w' := by
  obtain ⟨R, h1, h2, h3⟩ := h.both
  refine (hc R h1).mono ?_
  rintro e w' ⟨rfl, R', h4, h5⟩
  have hs := h5.keeps.size
  refine ⟨rfl, ⟨fun x hx => Nat.lt_of_lt_of_le (h.low x hx) hs, R', h4, fun x hx => by rw [h5.same x (h.low x hx)]; exact h2 x hx, ?_⟩, h5.keeps.mono (fun x _ hx hN => hx (h2 x hN))⟩
  exact h3.keepS h5.keeps (fun g hg _ hx => hx hg.1) (fun g hg hl => ⟨by rw [h5.same g hl]; exact hg.1, hg.2⟩)

/-- A call of the reference. -/
theorem Pair.ref {d' : Nds} {f : Nat} {args : Array Value} {E : Option Addr → Nat → Ending} (h : Pair N w a dp p c dr room)
    (hc : ∀ S, RefAt S w p c dr → (∀ g, w.heap.size ≤ g → S g) → Calls Try.prog f args w fun e w' => ∃ p' c', e = E p' c' ∧ RefAt S w' p' c' d' ∧ Keeps NoB w w') :
    Calls Try.prog f args w fun e w' => ∃ p' c', e = E p' c' ∧ Pair N w' a dp p' c' d' room ∧ Keeps NoB w w' := by
  obtain ⟨R, h1, h2, h3⟩ := h.both
  refine (hc _ h3 (fun g hg => ⟨h1.tagTop g hg, fun hx => by have := h.low g hx; omega⟩)).mono ?_
  rintro e w' ⟨p', c', rfl, h4, h5⟩
  have hs := h5.size
  exact ⟨p', c', rfl, ⟨fun x hx => Nat.lt_of_lt_of_le (h.low x hx) hs, R, h1.keepN h5, h2, h4⟩, h5⟩

/-- A call that only reads. -/
theorem Pair.asks {f : Nat} {args : Array Value} {Q : Ending → World → Prop} (h : Pair N w a dp p c dr room)
    (hc : ∀ S, RefAt S w p c dr → Calls Try.prog f args w Q) : Calls Try.prog f args w Q := by
  obtain ⟨R, h1, h2, h3⟩ := h.both
  exact hc _ h3
theorem Pair.tells {f : Nat} {args : Array Value} {Q : Ending → World → Prop} (h : Pair N w a dp p c dr room)
    (hc : ∀ R lk up, Rep R w a dp room (used dp) lk up → Calls Try.prog f args w Q) : Calls Try.prog f args w Q := by
  obtain ⟨R, ⟨⟨lk, up, hC⟩, _, _, _⟩, h2, h3⟩ := h.both
  exact hc R lk up hC.rep

end

-- what a call makes of the nodes
noncomputable def relD (d : Nds) (i : Int) : Nds := if relErr d i = 0 then gc (relTo d i) else d
def holdD (d : Nds) (i : Int) : Nds := if has d i then holdTo d i else d
def hldErr (d : Nds) (i : Int) : Int := if has d i then 0 else 12
def chmodD (d : Nds) (i m : Int) : Nds := if chmodErr d i m = 0 then chmodTo d i m else d
def emptyD (d : Nds) (i : Int) : Nds := if fileErr d i = 0 then emptyTo d i else d

theorem holdTo_clean {d : Nds} (hI : DInv d) (hcl : NoGarb d) {i : Int} (hi : has d i) : gc (holdTo d i) = holdTo d i := by
  refine gc_same fun j hj => ?_
  obtain ⟨g1, g2, g3⟩ := hj
  have hr := has_range hi
  unfold holdTo at g1 g2 g3
  rw [links_same (n := (nd d i).setHolds ((nd d i).holds + 1)) hi rfl] at g2
  have g1' := (has_upd (n := (nd d i).setHolds ((nd d i).holds + 1)) hi hi j).1 g1
  rw [nd_upd hr.1 hr.2] at g3
  split at g3
  · have := (hI.node i).holds
    simp only [Nd.setHolds] at g3
    omega
  · exact hcl j ⟨g1', g2, g3⟩

section
variable {N : Nat → Prop} {w : World} {a : Nat} {d dp : Nds} {p : Option Addr} {c : Nat} {room : Int}

/-- What a call of the program's disk leaves. -/
def PTo (N : Nat → Prop) (w : World) (a : Nat) (d' : Nds) (p : Option Addr) (c : Nat) (dr : Nds) (room : Int) (v : Value) : Ending → World → Prop := fun e w' =>
  e = .returned v ∧ Pair N w' a d' p c dr room ∧ Keeps (fun g => ¬ N g) w w'
/-- What a call of the reference leaves. -/
def QTo (N : Nat → Prop) (w : World) (a : Nat) (dp : Nds) (d' : Nds) (room : Int) (v : Value → Value) : Ending → World → Prop := fun e w' =>
  ∃ p' c', e = .returned (v (refV p' c' d' room)) ∧ Pair N w' a dp p' c' d' room ∧ Keeps NoB w w'

theorem p_make {dr : Nds} (h : Pair N w a d p c dr room) (kind m : Int) (s : ByteArray) (hb : mass d + 2 ≤ 2147483648) (hsz : s.size ≤ 4294967296) :
    Calls Try.prog 10 #[.pointer (some ⟨a, 0, none⟩), .int .i64 kind, .int .i64 m, .string s] w (PTo N w a (makeTo d room kind m s) p c dr room (.tuple #[.int .i64 (makeId d room kind m s), .int .i64 (makeErr d room kind m s)])) :=
  h.prog fun R hR => makeD_any hR kind m s hb hsz
theorem q_make (h : Pair N w a dp p c d room) (hI : DInv d) (hs : smallD d) (kind m : Int) (s : ByteArray) (hsz : s.size ≤ 4294967296) :
    Calls Try.prog 40 #[refV p c d room, .int .i64 kind, .int .i64 m, .string s] w (QTo N w a dp (makeTo d room kind m s) room (fun v => .tuple #[v, .int .i64 (makeId d room kind m s), .int .i64 (makeErr d room kind m s)])) :=
  h.ref fun S hr hS => r4make_any hr hS hI hs kind m s hsz

theorem p_hold {dr : Nds} (h : Pair N w a d p c dr room) (i : Int) (hb : mass d + 1 ≤ 2147483648) :
    Calls Try.prog 41 #[.pointer (some ⟨a, 0, none⟩), .int .i64 i] w (PTo N w a (holdD d i) p c dr room (.int .i64 (hldErr d i))) :=
  h.prog fun R hR => holdD_any hR i hb
theorem q_hold (h : Pair N w a dp p c d room) (hI : DInv d) (hcl : NoGarb d) (hs : mass d + 1 ≤ 2147483648) (i : Int) :
    Calls Try.prog 20 #[refV p c d room, .int .i64 i, .int .i64 1] w (QTo N w a dp (holdD d i) room (fun v => .tuple #[v, .int .i64 (hldErr d i)])) := by
  have := h.ref fun S hr hS => r4hold_any (room := room) hr hS hI hcl hs i 1 (.inl rfl)
  have e1 : holdErr d i 1 = hldErr d i := by
    unfold holdErr hldErr
    by_cases hi : has d i
    · rw [if_pos hi, if_pos ⟨hi, .inl (by decide)⟩]
    · rw [if_neg hi, if_neg (fun h => hi h.1)]
  have e2 : (if holdErr d i 1 = 0 then gc (holdBy d i 1) else d) = holdD d i := by
    rw [e1]
    unfold hldErr holdD
    by_cases hi : has d i
    · rw [if_pos hi, if_pos hi, if_pos rfl]; exact holdTo_clean hI hcl hi
    · rw [if_neg hi, if_neg hi, if_neg (by decide)]
  rw [e2, e1] at this
  exact this

theorem p_rel {dr : Nds} (h : Pair N w a d p c dr room) (i : Int) :
    Calls Try.prog 19 #[.pointer (some ⟨a, 0, none⟩), .int .i64 i] w (PTo N w a (relD d i) p c dr room (.int .i64 (relErr d i))) :=
  h.prog fun R hR => release_any hR i
theorem q_rel (h : Pair N w a dp p c d room) (hI : DInv d) (hcl : NoGarb d) (hs : mass d + 1 ≤ 2147483648) (i : Int) :
    Calls Try.prog 20 #[refV p c d room, .int .i64 i, .int .i64 (-1)] w (QTo N w a dp (relD d i) room (fun v => .tuple #[v, .int .i64 (relErr d i)])) := by
  have := h.ref fun S hr hS => r4hold_any (room := room) hr hS hI hcl hs i (-1) (.inr rfl)
  have e1 : holdErr d i (-1) = relErr d i := by
    unfold holdErr relErr has
    by_cases hi : (nd d i).kind = 0
    · rw [if_pos hi, if_neg (fun h => h.1 hi)]
    · by_cases hh : (nd d i).holds = 0
      · rw [if_neg hi, if_pos hh, if_neg (fun h => h.2.elim (by decide) (fun h => h hh))]
      · rw [if_neg hi, if_neg hh, if_pos ⟨hi, .inr hh⟩]
  rw [e1] at this
  exact this

theorem p_chmod {dr : Nds} (h : Pair N w a d p c dr room) (i m : Int) :
    Calls Try.prog 42 #[.pointer (some ⟨a, 0, none⟩), .int .i64 i, .int .i64 m] w (PTo N w a (chmodD d i m) p c dr room (.int .i64 (chmodErr d i m))) :=
  h.prog fun R hR => chmodD_any hR i m
theorem q_chmod (h : Pair N w a dp p c d room) (hI : DInv d) (hs : smallD d) (i m : Int) :
    Calls Try.prog 43 #[refV p c d room, .int .i64 i, .int .i64 m] w (QTo N w a dp (chmodD d i m) room (fun v => .tuple #[v, .int .i64 (chmodErr d i m)])) :=
  h.ref fun S hr hS => r4chmod_any hr hS hI hs i m

theorem p_write {dr : Nds} (h : Pair N w a d p c dr room) (i x : Int) (s : ByteArray) (hsz : s.size ≤ 4294967296) :
    Calls Try.prog 11 #[.pointer (some ⟨a, 0, none⟩), .int .i64 i, .int .i64 x, .string s] w (PTo N w a (writeTo d room i x s) p c dr room (.int .i64 (writeErr d room i x s))) :=
  h.prog fun R hR => writeD_any hR i x s hsz
theorem q_write (h : Pair N w a dp p c d room) (hI : DInv d) (hs : smallD d) (i x : Int) (s : ByteArray) (hsz : s.size ≤ 4294967296) :
    Calls Try.prog 44 #[refV p c d room, .int .i64 i, .int .i64 x, .string s] w (QTo N w a dp (writeTo d room i x s) room (fun v => .tuple #[v, .int .i64 (writeErr d room i x s)])) :=
  h.ref fun S hr hS => r4write_any hr hS hI hs i x s hsz

theorem p_empty {dr : Nds} (h : Pair N w a d p c dr room) (i : Int) :
    Calls Try.prog 45 #[.pointer (some ⟨a, 0, none⟩), .int .i64 i] w (PTo N w a (emptyD d i) p c dr room (.int .i64 (fileErr d i))) :=
  h.prog fun R hR => empty_any hR i
theorem q_empty (h : Pair N w a dp p c d room) (hI : DInv d) (hs : smallD d) (i : Int) :
    Calls Try.prog 46 #[refV p c d room, .int .i64 i] w (QTo N w a dp (emptyD d i) room (fun v => .tuple #[v, .int .i64 (fileErr d i)])) :=
  h.ref fun S hr hS => r4empty_any hr hS hI hs i

theorem p_enter {dr : Nds} (h : Pair N w a d p c dr room) (i : Int) (name : ByteArray) (k : Int) (hsz : name.size ≤ 4294967296) (hb : mass d + 1 ≤ 2147483648) (hno : folderErr d i = 0 → (nd d k).kind = 2 → ¬ Above d k i) :
    Calls Try.prog 34 #[.pointer (some ⟨a, 0, none⟩), .int .i64 i, .string name, .int .i64 k] w (PTo N w a (enterD d room i name k) p c dr room (.int .i64 (enterErr d room i name k))) :=
  h.prog fun R hR => enterD_any hR i name k hsz hb hno
theorem q_enter (h : Pair N w a dp p c d room) (hI : DInv d) (hs : smallD d) (i : Int) (name : ByteArray) (k : Int) (hsz : name.size ≤ maxLen) :
    Calls Try.prog 47 #[refV p c d room, .int .i64 i, .string name, .int .i64 k] w (QTo N w a dp (enterD d room i name k) room (fun v => .tuple #[v, .int .i64 (enterErr d room i name k)])) :=
  h.ref fun S hr hS => r4enter_any hr hS hI hs i name k hsz

theorem p_leave {dr : Nds} (h : Pair N w a d p c dr room) (i : Int) (name : ByteArray) :
    Calls Try.prog 21 #[.pointer (some ⟨a, 0, none⟩), .int .i64 i, .string name] w (PTo N w a (leaveTo d i name) p c dr room (.int .i64 (leaveErr d i name))) :=
  h.prog fun R hR => leaveD_any hR i name
theorem q_leave (h : Pair N w a dp p c d room) (hI : DInv d) (hcl : NoGarb d) (hs : smallD d) (i : Int) (name : ByteArray) :
    Calls Try.prog 22 #[refV p c d room, .int .i64 i, .string name] w (QTo N w a dp (leaveTo d i name) room (fun v => .tuple #[v, .int .i64 (leaveErr d i name)])) :=
  h.ref fun S hr hS => r4leave_any hr hS hI hcl hs i name

theorem p_move {dr : Nds} (h : Pair N w a d p c dr room) (f : Int) (name : ByteArray) (t : Int) (other : ByteArray) (hos : other.size ≤ 4294967296) :
    Calls Try.prog 29 #[.pointer (some ⟨a, 0, none⟩), .int .i64 f, .string name, .int .i64 t, .string other] w (PTo N w a (moveD d room f name t other) p c dr room (.int .i64 (moveErr d room f name t other))) :=
  h.prog fun R hR => moveD_any hR f name t other hos
theorem q_move (h : Pair N w a dp p c d room) (hI : DInv d) (hcl : NoGarb d) (hs : smallD d) (f : Int) (name : ByteArray) (t : Int) (other : ByteArray) (hos : other.size ≤ maxLen) :
    Calls Try.prog 28 #[refV p c d room, .int .i64 f, .string name, .int .i64 t, .string other] w (QTo N w a dp (moveD d room f name t other) room (fun v => .tuple #[v, .int .i64 (moveErr d room f name t other)])) :=
  h.ref fun S hr hS => r4move_any hr hS hI hcl hs f name t other hos

end

end Go.Proofs.Ytbcejodnjeklpaa

/-
  Layer 4's statements: a call of both disks.
-/
namespace Go.Proofs.Ytbcejodnjeklpaa
open Go.RowKit
set_option maxRecDepth 100000
set_option maxHeartbeats 2000000

/-- The variables of do: the reference's disk, the call, the result. -/
structure DBox (w w1 : World) (p : Option Addr) (n c : Nat) (room kind oa ob : Int) (os ot : ByteArray) : Prop where
  A0 : w1.cell? ⟨w.heap.size, 0, none⟩ = some (.slice p n c)
  A1 : w1.cell? ⟨w.heap.size, 1, none⟩ = some (.int .i64 room)
  B0 : w1.cell? ⟨w.heap.size + 1, 0, none⟩ = some (.int .i64 kind)
  B1 : w1.cell? ⟨w.heap.size + 1, 1, none⟩ = some (.int .i64 oa)
  B2 : w1.cell? ⟨w.heap.size + 1, 2, none⟩ = some (.int .i64 ob)
  B3 : w1.cell? ⟨w.heap.size + 1, 3, none⟩ = some (.string os)
  B4 : w1.cell? ⟨w.heap.size + 1, 4, none⟩ = some (.string ot)
  C0 : w1.cell? ⟨w.heap.size + 2, 0, none⟩ = some (.slice none 0 0)
  C1 : w1.cell? ⟨w.heap.size + 2, 1, none⟩ = some (.int .i64 0)
  zA : ∀ j, w1.frozen? ⟨w.heap.size, j, none⟩ = false
  zC : ∀ j, w1.frozen? ⟨w.heap.size + 2, j, none⟩ = false
  size : w.heap.size + 3 ≤ w1.heap.size

theorem dbox {w w1 : World} {p : Option Addr} {n c : Nat} {room kind oa ob : Int} {os ot : ByteArray} {t1 t2 t3 : TypeId}
    (hk : Keeps NoB (((w.alloc (.cells #[.slice p n c, .int .i64 room] t1)).alloc (.cells #[.int .i64 kind, .int .i64 oa, .int .i64 ob, .string os, .string ot] t2)).alloc (.cells #[.slice none 0 0, .int .i64 0] t3)) w1) : DBox w w1 p n c room kind oa ob os ot := by
  obtain ⟨a1, a2, a3, z1, z2, z3, z4⟩ := boxes3 hk
  exact ⟨a1 0 _ rfl, a1 1 _ rfl, a2 0 _ rfl, a2 1 _ rfl, a2 2 _ rfl, a2 3 _ rfl, a2 4 _ rfl, a3 0 _ rfl, a3 1 _ rfl, z1, z3, z4⟩

theorem DBox.keep {F : Nat → Prop} {w w1 w2 : World} {p : Option Addr} {n c : Nat} {room kind oa ob : Int} {os ot : ByteArray} (h : DBox w w1 p n c room kind oa ob os ot) (k : Keeps F w1 w2) (hA : ¬ F w.heap.size) (hB : ¬ F (w.heap.size + 1)) (hC : ¬ F (w.heap.size + 2)) :
    DBox w w2 p n c room kind oa ob os ot := by
  have l1 := lt_of_cell h.A0
  have l2 := lt_of_cell h.B0
  have l3 := lt_of_cell h.C0
  have := k.size
  exact ⟨(k.cell (p := ⟨w.heap.size, 0, none⟩) l1 hA).trans h.A0, (k.cell (p := ⟨w.heap.size, 1, none⟩) l1 hA).trans h.A1,
    (k.cell (p := ⟨w.heap.size + 1, 0, none⟩) l2 hB).trans h.B0, (k.cell (p := ⟨w.heap.size + 1, 1, none⟩) l2 hB).trans h.B1, (k.cell (p := ⟨w.heap.size + 1, 2, none⟩) l2 hB).trans h.B2, (k.cell (p := ⟨w.heap.size + 1, 3, none⟩) l2 hB).trans h.B3, (k.cell (p := ⟨w.heap.size + 1, 4, none⟩) l2 hB).trans h.B4,
    (k.cell (p := ⟨w.heap.size + 2, 0, none⟩) l3 hC).trans h.C0, (k.cell (p := ⟨w.heap.size + 2, 1, none⟩) l3 hC).trans h.C1,
    fun j => (k.frozen (p := ⟨w.heap.size, j, none⟩) l1 hA).trans (h.zA j), fun j => (k.frozen (p := ⟨w.heap.size + 2, j, none⟩) l3 hC).trans (h.zC j), by have := h.size; omega⟩

/-- do's own blocks are neither's. -/
def ND (N : Nat → Prop) (w : World) : Nat → Prop := fun x => N x ∨ x = w.heap.size ∨ x = w.heap.size + 1 ∨ x = w.heap.size + 2

/-- The nodes after a call. -/
noncomputable def stepD (d : Nds) (room : Int) (o : Op4) : Nds :=
  if o.kind = 1 then makeTo d room o.a o.b o.s else if o.kind = 2 then holdD d o.a else if o.kind = 3 then relD d o.a else if o.kind = 4 then chmodD d o.a o.b else if o.kind = 5 then writeTo d room o.a o.b o.s
  else if o.kind = 6 then emptyD d o.a else if o.kind = 7 then enterD d room o.a o.s o.b else if o.kind = 8 then leaveTo d o.a o.s else if o.kind = 9 then moveD d room o.a o.s o.b o.t else d

/-- What do leaves: both disks are the same, again. -/
def DoTo (N : Nat → Prop) (w : World) (a : Nat) (d' : Nds) (room : Int) : Ending → World → Prop := fun e w' =>
  ∃ p' c', e = .returned (.tuple #[refV p' c' d' room, .bool true]) ∧ Pair N w' a d' p' c' d' room ∧ Keeps (fun g => ¬ N g) w w'

section
variable {N : Nat → Prop} {w : World} {a : Nat} {d : Nds} {p : Option Addr} {c : Nat} {room : Int}

theorem do_end {w5 wF : World} {d' : Nds} {p5 : Option Addr} {c5 : Nat} (hp : Pair (ND N w) w5 a d' p5 c5 d' room) (hl : ∀ x, N x → x < w.heap.size) (hk : Keeps (fun g => ¬ N g) w w5) (kF : Keeps (fun b => b = w.heap.size ∨ b = w.heap.size + 2) w5 wF) :
    DoTo N w a d' room (.returned (.tuple #[refV p5 c5 d' room, .bool true])) wF :=
  ⟨p5, c5, rfl, (hp.keep kF (fun x _ hx => by rcases hx with e | e <;> first | exact .inr (.inl e) | exact .inr (.inr (.inr e)))).less (fun x hx => .inl hx), hk.trans (kF.mono (fun b _ hb hN => by have := hl b hN; omega))⟩

theorem do_start (h : Pair N w a d p c d room) {w3 : World} (k : Keeps NoB w w3) (hs : w.heap.size + 3 ≤ w3.heap.size) : Pair (ND N w) w3 a d p c d room :=
  h.grow k (fun x hx => by rcases hx with e | e | e | e <;> first | exact .inl e | (refine .inr ⟨?_, ?_⟩ <;> omega))

theorem nd_not {w4 w5 : World} {p : Option Addr} {n c : Nat} {room kind oa ob : Int} {os ot : ByteArray} (h : DBox w w4 p n c room kind oa ob os ot) (k : Keeps (fun g => ¬ ND N w g) w4 w5) : DBox w w5 p n c room kind oa ob os ot :=
  h.keep k (fun h => h (.inr (.inl rfl))) (fun h => h (.inr (.inr (.inl rfl)))) (fun h => h (.inr (.inr (.inr rfl))))

theorem do_hold (h : Pair N w a d p c d room) (hb : mass d + 2 ≤ 2147483648) (oa ob : Int) (os ot : ByteArray) (hos : os.size ≤ 300) (hot : ot.size ≤ 300) :
    Calls Try.prog 17 #[.pointer (some ⟨a, 0, none⟩), refV p c d room, .agg #[.int .i64 2, .int .i64 oa, .int .i64 ob, .string os, .string ot]] w (DoTo N w a (holdD d oa) room) := by
  have k3 : Keeps NoB w (((w.alloc (.cells #[.slice p d.length c, .int .i64 room] 39)).alloc (.cells #[.int .i64 2, .int .i64 oa, .int .i64 ob, .string os, .string ot] 31)).alloc (.cells #[.slice none 0 0, .int .i64 0] 39)) := ((((Keeps.refl NoB w).alloc _).alloc _).alloc _)
  have hI := h.inv
  have hcl := h.clean
  have hs := h.small
  have hl := h.low
  have D := dbox (Keeps.refl NoB (((w.alloc (.cells #[.slice p d.length c, .int .i64 room] 39)).alloc (.cells #[.int .i64 2, .int .i64 oa, .int .i64 ob, .string os, .string ot] 31)).alloc (.cells #[.slice none 0 0, .int .i64 0] 39)))
  have hP := p_hold (do_start h k3 D.size) oa (Nat.le_of_succ_le hb)
  have hQ := fun (w4 : World) (h4 : Pair (ND N w) w4 a (holdD d oa) p c d room) => q_hold h4 hI hcl (Nat.le_of_succ_le hb) oa
  have HP := Lib.hid hP
  have HQ := Lib.hid hQ
  have HL := Lib.hid hl
  clear hP hQ hI hcl hs hl h hb hos hot
  unfold PTo at HP
  unfold QTo at HQ
  generalize hldErr d oa = er at *
  generalize holdD d oa = dd at *
  unfold refV at *
  go_enter Try.func17, Try.ntmps17
  go_wp2_with (first | (go_at_call 41; go_loud (refine HP.out.mono ?_); rintro e w4 ⟨rfl, hp4, hk4⟩; replace D := nd_not D hk4; (try clear A0); (try clear A1); (try clear B0); (try clear B1); (try clear B2); (try clear B3); (try clear B4); (try clear C0); (try clear C1); (try clear zA); (try clear zC); have A0 := D.A0; have A1 := D.A1; have B0 := D.B0; have B1 := D.B1; have B2 := D.B2; have B3 := D.B3; have B4 := D.B4; have C0 := D.C0; have C1 := D.C1; have zA := D.zA; have zC := D.zC) | (go_at_call 20; go_loud (refine (HQ.out _ hp4).mono ?_); rintro e w5 ⟨p5, c5, rfl, hp5, hk5⟩; replace D := D.keep hk5 (fun h => h) (fun h => h) (fun h => h); (try clear A0); (try clear A1); (try clear B0); (try clear B1); (try clear B2); (try clear B3); (try clear B4); (try clear C0); (try clear C1); (try clear zA); (try clear zC); have A0 := D.A0; have A1 := D.A1; have B0 := D.B0; have B1 := D.B1; have B2 := D.B2; have B3 := D.B3; have B4 := D.B4; have C0 := D.C0; have C1 := D.C1; have zA := D.zA; have zC := D.zC))
  (try simp only [Exit.inBlock, Exit.then])
  refine bodyPost_ret (v := .tuple #[.agg #[.slice p5 dd.length c5, .int .i64 room], .bool true]) ?_ rfl ?_
  · rw [results_cell_tmp rfl]
    go_simp
  · refine do_end hp5 HL.out (((k3.of_none (F := fun g => ¬ N g)).trans (hk4.mono (fun g _ hg hN => hg (.inl hN)))).trans hk5.of_none) ?_
    exact (((keeps_set w5 ⟨w.heap.size, 0, none⟩ _).mono (fun b _ hb => .inl hb)).trans ((keeps_set _ ⟨w.heap.size, 1, none⟩ _).mono (fun b _ hb => .inl hb))).trans (((keeps_set _ ⟨w.heap.size + 2, 0, none⟩ _).mono (fun b _ hb => .inr hb)).trans ((keeps_set _ ⟨w.heap.size + 2, 1, none⟩ _).mono (fun b _ hb => .inr hb)))

theorem do_rel (h : Pair N w a d p c d room) (hb : mass d + 2 ≤ 2147483648) (oa ob : Int) (os ot : ByteArray) (hos : os.size ≤ 300) (hot : ot.size ≤ 300) :
    Calls Try.prog 17 #[.pointer (some ⟨a, 0, none⟩), refV p c d room, .agg #[.int .i64 3, .int .i64 oa, .int .i64 ob, .string os, .string ot]] w (DoTo N w a (relD d oa) room) := by
  have k3 : Keeps NoB w (((w.alloc (.cells #[.slice p d.length c, .int .i64 room] 39)).alloc (.cells #[.int .i64 3, .int .i64 oa, .int .i64 ob, .string os, .string ot] 31)).alloc (.cells #[.slice none 0 0, .int .i64 0] 39)) := ((((Keeps.refl NoB w).alloc _).alloc _).alloc _)
  have hI := h.inv
  have hcl := h.clean
  have hs := h.small
  have hl := h.low
  have D := dbox (Keeps.refl NoB (((w.alloc (.cells #[.slice p d.length c, .int .i64 room] 39)).alloc (.cells #[.int .i64 3, .int .i64 oa, .int .i64 ob, .string os, .string ot] 31)).alloc (.cells #[.slice none 0 0, .int .i64 0] 39)))
  have hP := p_rel (do_start h k3 D.size) oa
  have hQ := fun (w4 : World) (h4 : Pair (ND N w) w4 a (relD d oa) p c d room) => q_rel h4 hI hcl (Nat.le_of_succ_le hb) oa
  have HP := Lib.hid hP
  have HQ := Lib.hid hQ
  have HL := Lib.hid hl
  clear hP hQ hI hcl hs hl h hb hos hot
  unfold PTo at HP
  unfold QTo at HQ
  generalize relErr d oa = er at *
  generalize relD d oa = dd at *
  unfold refV at *
  go_enter Try.func17, Try.ntmps17
  go_wp2_with (first | (go_at_call 19; go_loud (refine HP.out.mono ?_); rintro e w4 ⟨rfl, hp4, hk4⟩; replace D := nd_not D hk4; (try clear A0); (try clear A1); (try clear B0); (try clear B1); (try clear B2); (try clear B3); (try clear B4); (try clear C0); (try clear C1); (try clear zA); (try clear zC); have A0 := D.A0; have A1 := D.A1; have B0 := D.B0; have B1 := D.B1; have B2 := D.B2; have B3 := D.B3; have B4 := D.B4; have C0 := D.C0; have C1 := D.C1; have zA := D.zA; have zC := D.zC) | (go_at_call 20; go_loud (refine (HQ.out _ hp4).mono ?_); rintro e w5 ⟨p5, c5, rfl, hp5, hk5⟩; replace D := D.keep hk5 (fun h => h) (fun h => h) (fun h => h); (try clear A0); (try clear A1); (try clear B0); (try clear B1); (try clear B2); (try clear B3); (try clear B4); (try clear C0); (try clear C1); (try clear zA); (try clear zC); have A0 := D.A0; have A1 := D.A1; have B0 := D.B0; have B1 := D.B1; have B2 := D.B2; have B3 := D.B3; have B4 := D.B4; have C0 := D.C0; have C1 := D.C1; have zA := D.zA; have zC := D.zC))
  (try simp only [Exit.inBlock, Exit.then])
  refine bodyPost_ret (v := .tuple #[.agg #[.slice p5 dd.length c5, .int .i64 room], .bool true]) ?_ rfl ?_
  · rw [results_cell_tmp rfl]
    go_simp
  · refine do_end hp5 HL.out (((k3.of_none (F := fun g => ¬ N g)).trans (hk4.mono (fun g _ hg hN => hg (.inl hN)))).trans hk5.of_none) ?_
    exact (((keeps_set w5 ⟨w.heap.size, 0, none⟩ _).mono (fun b _ hb => .inl hb)).trans ((keeps_set _ ⟨w.heap.size, 1, none⟩ _).mono (fun b _ hb => .inl hb))).trans (((keeps_set _ ⟨w.heap.size + 2, 0, none⟩ _).mono (fun b _ hb => .inr hb)).trans ((keeps_set _ ⟨w.heap.size + 2, 1, none⟩ _).mono (fun b _ hb => .inr hb)))

theorem do_chmod (h : Pair N w a d p c d room) (hb : mass d + 2 ≤ 2147483648) (oa ob : Int) (os ot : ByteArray) (hos : os.size ≤ 300) (hot : ot.size ≤ 300) :
    Calls Try.prog 17 #[.pointer (some ⟨a, 0, none⟩), refV p c d room, .agg #[.int .i64 4, .int .i64 oa, .int .i64 ob, .string os, .string ot]] w (DoTo N w a (chmodD d oa ob) room) := by
  have k3 : Keeps NoB w (((w.alloc (.cells #[.slice p d.length c, .int .i64 room] 39)).alloc (.cells #[.int .i64 4, .int .i64 oa, .int .i64 ob, .string os, .string ot] 31)).alloc (.cells #[.slice none 0 0, .int .i64 0] 39)) := ((((Keeps.refl NoB w).alloc _).alloc _).alloc _)
  have hI := h.inv
  have hcl := h.clean
  have hs := h.small
  have hl := h.low
  have D := dbox (Keeps.refl NoB (((w.alloc (.cells #[.slice p d.length c, .int .i64 room] 39)).alloc (.cells #[.int .i64 4, .int .i64 oa, .int .i64 ob, .string os, .string ot] 31)).alloc (.cells #[.slice none 0 0, .int .i64 0] 39)))
  have hP := p_chmod (do_start h k3 D.size) oa ob
  have hQ := fun (w4 : World) (h4 : Pair (ND N w) w4 a (chmodD d oa ob) p c d room) => q_chmod h4 hI hs oa ob
  have HP := Lib.hid hP
  have HQ := Lib.hid hQ
  have HL := Lib.hid hl
  clear hP hQ hI hcl hs hl h hb hos hot
  unfold PTo at HP
  unfold QTo at HQ
  generalize chmodErr d oa ob = er at *
  generalize chmodD d oa ob = dd at *
  unfold refV at *
  go_enter Try.func17, Try.ntmps17
  go_wp2_with (first | (go_at_call 42; go_loud (refine HP.out.mono ?_); rintro e w4 ⟨rfl, hp4, hk4⟩; replace D := nd_not D hk4; (try clear A0); (try clear A1); (try clear B0); (try clear B1); (try clear B2); (try clear B3); (try clear B4); (try clear C0); (try clear C1); (try clear zA); (try clear zC); have A0 := D.A0; have A1 := D.A1; have B0 := D.B0; have B1 := D.B1; have B2 := D.B2; have B3 := D.B3; have B4 := D.B4; have C0 := D.C0; have C1 := D.C1; have zA := D.zA; have zC := D.zC) | (go_at_call 43; go_loud (refine (HQ.out _ hp4).mono ?_); rintro e w5 ⟨p5, c5, rfl, hp5, hk5⟩; replace D := D.keep hk5 (fun h => h) (fun h => h) (fun h => h); (try clear A0); (try clear A1); (try clear B0); (try clear B1); (try clear B2); (try clear B3); (try clear B4); (try clear C0); (try clear C1); (try clear zA); (try clear zC); have A0 := D.A0; have A1 := D.A1; have B0 := D.B0; have B1 := D.B1; have B2 := D.B2; have B3 := D.B3; have B4 := D.B4; have C0 := D.C0; have C1 := D.C1; have zA := D.zA; have zC := D.zC))
  (try simp only [Exit.inBlock, Exit.then])
  refine bodyPost_ret (v := .tuple #[.agg #[.slice p5 dd.length c5, .int .i64 room], .bool true]) ?_ rfl ?_
  · rw [results_cell_tmp rfl]
    go_simp
  · refine do_end hp5 HL.out (((k3.of_none (F := fun g => ¬ N g)).trans (hk4.mono (fun g _ hg hN => hg (.inl hN)))).trans hk5.of_none) ?_
    exact (((keeps_set w5 ⟨w.heap.size, 0, none⟩ _).mono (fun b _ hb => .inl hb)).trans ((keeps_set _ ⟨w.heap.size, 1, none⟩ _).mono (fun b _ hb => .inl hb))).trans (((keeps_set _ ⟨w.heap.size + 2, 0, none⟩ _).mono (fun b _ hb => .inr hb)).trans ((keeps_set _ ⟨w.heap.size + 2, 1, none⟩ _).mono (fun b _ hb => .inr hb)))

theorem do_write (h : Pair N w a d p c d room) (hb : mass d + 2 ≤ 2147483648) (oa ob : Int) (os ot : ByteArray) (hos : os.size ≤ 300) (hot : ot.size ≤ 300) :
    Calls Try.prog 17 #[.pointer (some ⟨a, 0, none⟩), refV p c d room, .agg #[.int .i64 5, .int .i64 oa, .int .i64 ob, .string os, .string ot]] w (DoTo N w a (writeTo d room oa ob os) room) := by
  have k3 : Keeps NoB w (((w.alloc (.cells #[.slice p d.length c, .int .i64 room] 39)).alloc (.cells #[.int .i64 5, .int .i64 oa, .int .i64 ob, .string os, .string ot] 31)).alloc (.cells #[.slice none 0 0, .int .i64 0] 39)) := ((((Keeps.refl NoB w).alloc _).alloc _).alloc _)
  have hI := h.inv
  have hcl := h.clean
  have hs := h.small
  have hl := h.low
  have D := dbox (Keeps.refl NoB (((w.alloc (.cells #[.slice p d.length c, .int .i64 room] 39)).alloc (.cells #[.int .i64 5, .int .i64 oa, .int .i64 ob, .string os, .string ot] 31)).alloc (.cells #[.slice none 0 0, .int .i64 0] 39)))
  have hP := p_write (do_start h k3 D.size) oa ob os (Nat.le_trans hos (by decide))
  have hQ := fun (w4 : World) (h4 : Pair (ND N w) w4 a (writeTo d room oa ob os) p c d room) => q_write h4 hI hs oa ob os (Nat.le_trans hos (by decide))
  have HP := Lib.hid hP
  have HQ := Lib.hid hQ
  have HL := Lib.hid hl
  clear hP hQ hI hcl hs hl h hb hos hot
  unfold PTo at HP
  unfold QTo at HQ
  generalize writeErr d room oa ob os = er at *
  generalize writeTo d room oa ob os = dd at *
  unfold refV at *
  go_enter Try.func17, Try.ntmps17
  go_wp2_with (first | (go_at_call 11; go_loud (refine HP.out.mono ?_); rintro e w4 ⟨rfl, hp4, hk4⟩; replace D := nd_not D hk4; (try clear A0); (try clear A1); (try clear B0); (try clear B1); (try clear B2); (try clear B3); (try clear B4); (try clear C0); (try clear C1); (try clear zA); (try clear zC); have A0 := D.A0; have A1 := D.A1; have B0 := D.B0; have B1 := D.B1; have B2 := D.B2; have B3 := D.B3; have B4 := D.B4; have C0 := D.C0; have C1 := D.C1; have zA := D.zA; have zC := D.zC) | (go_at_call 44; go_loud (refine (HQ.out _ hp4).mono ?_); rintro e w5 ⟨p5, c5, rfl, hp5, hk5⟩; replace D := D.keep hk5 (fun h => h) (fun h => h) (fun h => h); (try clear A0); (try clear A1); (try clear B0); (try clear B1); (try clear B2); (try clear B3); (try clear B4); (try clear C0); (try clear C1); (try clear zA); (try clear zC); have A0 := D.A0; have A1 := D.A1; have B0 := D.B0; have B1 := D.B1; have B2 := D.B2; have B3 := D.B3; have B4 := D.B4; have C0 := D.C0; have C1 := D.C1; have zA := D.zA; have zC := D.zC))
  (try simp only [Exit.inBlock, Exit.then])
  refine bodyPost_ret (v := .tuple #[.agg #[.slice p5 dd.length c5, .int .i64 room], .bool true]) ?_ rfl ?_
  · rw [results_cell_tmp rfl]
    go_simp
  · refine do_end hp5 HL.out (((k3.of_none (F := fun g => ¬ N g)).trans (hk4.mono (fun g _ hg hN => hg (.inl hN)))).trans hk5.of_none) ?_
    exact (((keeps_set w5 ⟨w.heap.size, 0, none⟩ _).mono (fun b _ hb => .inl hb)).trans ((keeps_set _ ⟨w.heap.size, 1, none⟩ _).mono (fun b _ hb => .inl hb))).trans (((keeps_set _ ⟨w.heap.size + 2, 0, none⟩ _).mono (fun b _ hb => .inr hb)).trans ((keeps_set _ ⟨w.heap.size + 2, 1, none⟩ _).mono (fun b _ hb => .inr hb)))

theorem do_empty (h : Pair N w a d p c d room) (hb : mass d + 2 ≤ 2147483648) (oa ob : Int) (os ot : ByteArray) (hos : os.size ≤ 300) (hot : ot.size ≤ 300) :
    Calls Try.prog 17 #[.pointer (some ⟨a, 0, none⟩), refV p c d room, .agg #[.int .i64 6, .int .i64 oa, .int .i64 ob, .string os, .string ot]] w (DoTo N w a (emptyD d oa) room) := by
  have k3 : Keeps NoB w (((w.alloc (.cells #[.slice p d.length c, .int .i64 room] 39)).alloc (.cells #[.int .i64 6, .int .i64 oa, .int .i64 ob, .string os, .string ot] 31)).alloc (.cells #[.slice none 0 0, .int .i64 0] 39)) := ((((Keeps.refl NoB w).alloc _).alloc _).alloc _)
  have hI := h.inv
  have hcl := h.clean
  have hs := h.small
  have hl := h.low
  have D := dbox (Keeps.refl NoB (((w.alloc (.cells #[.slice p d.length c, .int .i64 room] 39)).alloc (.cells #[.int .i64 6, .int .i64 oa, .int .i64 ob, .string os, .string ot] 31)).alloc (.cells #[.slice none 0 0, .int .i64 0] 39)))
  have hP := p_empty (do_start h k3 D.size) oa
  have hQ := fun (w4 : World) (h4 : Pair (ND N w) w4 a (emptyD d oa) p c d room) => q_empty h4 hI hs oa
  have HP := Lib.hid hP
  have HQ := Lib.hid hQ
  have HL := Lib.hid hl
  clear hP hQ hI hcl hs hl h hb hos hot
  unfold PTo at HP
  unfold QTo at HQ
  generalize fileErr d oa = er at *
  generalize emptyD d oa = dd at *
  unfold refV at *
  go_enter Try.func17, Try.ntmps17
  go_wp2_with (first | (go_at_call 45; go_loud (refine HP.out.mono ?_); rintro e w4 ⟨rfl, hp4, hk4⟩; replace D := nd_not D hk4; (try clear A0); (try clear A1); (try clear B0); (try clear B1); (try clear B2); (try clear B3); (try clear B4); (try clear C0); (try clear C1); (try clear zA); (try clear zC); have A0 := D.A0; have A1 := D.A1; have B0 := D.B0; have B1 := D.B1; have B2 := D.B2; have B3 := D.B3; have B4 := D.B4; have C0 := D.C0; have C1 := D.C1; have zA := D.zA; have zC := D.zC) | (go_at_call 46; go_loud (refine (HQ.out _ hp4).mono ?_); rintro e w5 ⟨p5, c5, rfl, hp5, hk5⟩; replace D := D.keep hk5 (fun h => h) (fun h => h) (fun h => h); (try clear A0); (try clear A1); (try clear B0); (try clear B1); (try clear B2); (try clear B3); (try clear B4); (try clear C0); (try clear C1); (try clear zA); (try clear zC); have A0 := D.A0; have A1 := D.A1; have B0 := D.B0; have B1 := D.B1; have B2 := D.B2; have B3 := D.B3; have B4 := D.B4; have C0 := D.C0; have C1 := D.C1; have zA := D.zA; have zC := D.zC))
  (try simp only [Exit.inBlock, Exit.then])
  refine bodyPost_ret (v := .tuple #[.agg #[.slice p5 dd.length c5, .int .i64 room], .bool true]) ?_ rfl ?_
  · rw [results_cell_tmp rfl]
    go_simp
  · refine do_end hp5 HL.out (((k3.of_none (F := fun g => ¬ N g)).trans (hk4.mono (fun g _ hg hN => hg (.inl hN)))).trans hk5.of_none) ?_
    exact (((keeps_set w5 ⟨w.heap.size, 0, none⟩ _).mono (fun b _ hb => .inl hb)).trans ((keeps_set _ ⟨w.heap.size, 1, none⟩ _).mono (fun b _ hb => .inl hb))).trans (((keeps_set _ ⟨w.heap.size + 2, 0, none⟩ _).mono (fun b _ hb => .inr hb)).trans ((keeps_set _ ⟨w.heap.size + 2, 1, none⟩ _).mono (fun b _ hb => .inr hb)))

theorem do_enter (h : Pair N w a d p c d room) (hb : mass d + 2 ≤ 2147483648) (oa ob : Int) (os ot : ByteArray) (hos : os.size ≤ 300) (hot : ot.size ≤ 300) (hno : folderErr d oa = 0 → (nd d ob).kind = 2 → ¬ Above d ob oa) :
    Calls Try.prog 17 #[.pointer (some ⟨a, 0, none⟩), refV p c d room, .agg #[.int .i64 7, .int .i64 oa, .int .i64 ob, .string os, .string ot]] w (DoTo N w a (enterD d room oa os ob) room) := by
  have k3 : Keeps NoB w (((w.alloc (.cells #[.slice p d.length c, .int .i64 room] 39)).alloc (.cells #[.int .i64 7, .int .i64 oa, .int .i64 ob, .string os, .string ot] 31)).alloc (.cells #[.slice none 0 0, .int .i64 0] 39)) := ((((Keeps.refl NoB w).alloc _).alloc _).alloc _)
  have hI := h.inv
  have hcl := h.clean
  have hs := h.small
  have hl := h.low
  have D := dbox (Keeps.refl NoB (((w.alloc (.cells #[.slice p d.length c, .int .i64 room] 39)).alloc (.cells #[.int .i64 7, .int .i64 oa, .int .i64 ob, .string os, .string ot] 31)).alloc (.cells #[.slice none 0 0, .int .i64 0] 39)))
  have hP := p_enter (do_start h k3 D.size) oa os ob (Nat.le_trans hos (by decide)) (Nat.le_of_succ_le hb) hno
  have hQ := fun (w4 : World) (h4 : Pair (ND N w) w4 a (enterD d room oa os ob) p c d room) => q_enter h4 hI hs oa os ob (Nat.le_trans hos (by decide))
  have HP := Lib.hid hP
  have HQ := Lib.hid hQ
  have HL := Lib.hid hl
  clear hP hQ hI hcl hs hl h hb hos hot hno
  unfold PTo at HP
  unfold QTo at HQ
  generalize enterErr d room oa os ob = er at *
  generalize enterD d room oa os ob = dd at *
  unfold refV at *
  go_enter Try.func17, Try.ntmps17
  go_wp2_with (first | (go_at_call 34; go_loud (refine HP.out.mono ?_); rintro e w4 ⟨rfl, hp4, hk4⟩; replace D := nd_not D hk4; (try clear A0); (try clear A1); (try clear B0); (try clear B1); (try clear B2); (try clear B3); (try clear B4); (try clear C0); (try clear C1); (try clear zA); (try clear zC); have A0 := D.A0; have A1 := D.A1; have B0 := D.B0; have B1 := D.B1; have B2 := D.B2; have B3 := D.B3; have B4 := D.B4; have C0 := D.C0; have C1 := D.C1; have zA := D.zA; have zC := D.zC) | (go_at_call 47; go_loud (refine (HQ.out _ hp4).mono ?_); rintro e w5 ⟨p5, c5, rfl, hp5, hk5⟩; replace D := D.keep hk5 (fun h => h) (fun h => h) (fun h => h); (try clear A0); (try clear A1); (try clear B0); (try clear B1); (try clear B2); (try clear B3); (try clear B4); (try clear C0); (try clear C1); (try clear zA); (try clear zC); have A0 := D.A0; have A1 := D.A1; have B0 := D.B0; have B1 := D.B1; have B2 := D.B2; have B3 := D.B3; have B4 := D.B4; have C0 := D.C0; have C1 := D.C1; have zA := D.zA; have zC := D.zC))
  (try simp only [Exit.inBlock, Exit.then])
  refine bodyPost_ret (v := .tuple #[.agg #[.slice p5 dd.length c5, .int .i64 room], .bool true]) ?_ rfl ?_
  · rw [results_cell_tmp rfl]
    go_simp
  · refine do_end hp5 HL.out (((k3.of_none (F := fun g => ¬ N g)).trans (hk4.mono (fun g _ hg hN => hg (.inl hN)))).trans hk5.of_none) ?_
    exact (((keeps_set w5 ⟨w.heap.size, 0, none⟩ _).mono (fun b _ hb => .inl hb)).trans ((keeps_set _ ⟨w.heap.size, 1, none⟩ _).mono (fun b _ hb => .inl hb))).trans (((keeps_set _ ⟨w.heap.size + 2, 0, none⟩ _).mono (fun b _ hb => .inr hb)).trans ((keeps_set _ ⟨w.heap.size + 2, 1, none⟩ _).mono (fun b _ hb => .inr hb)))

theorem do_leave (h : Pair N w a d p c d room) (hb : mass d + 2 ≤ 2147483648) (oa ob : Int) (os ot : ByteArray) (hos : os.size ≤ 300) (hot : ot.size ≤ 300) :
    Calls Try.prog 17 #[.pointer (some ⟨a, 0, none⟩), refV p c d room, .agg #[.int .i64 8, .int .i64 oa, .int .i64 ob, .string os, .string ot]] w (DoTo N w a (leaveTo d oa os) room) := by
  have k3 : Keeps NoB w (((w.alloc (.cells #[.slice p d.length c, .int .i64 room] 39)).alloc (.cells #[.int .i64 8, .int .i64 oa, .int .i64 ob, .string os, .string ot] 31)).alloc (.cells #[.slice none 0 0, .int .i64 0] 39)) := ((((Keeps.refl NoB w).alloc _).alloc _).alloc _)
  have hI := h.inv
  have hcl := h.clean
  have hs := h.small
  have hl := h.low
  have D := dbox (Keeps.refl NoB (((w.alloc (.cells #[.slice p d.length c, .int .i64 room] 39)).alloc (.cells #[.int .i64 8, .int .i64 oa, .int .i64 ob, .string os, .string ot] 31)).alloc (.cells #[.slice none 0 0, .int .i64 0] 39)))
  have hP := p_leave (do_start h k3 D.size) oa os
  have hQ := fun (w4 : World) (h4 : Pair (ND N w) w4 a (leaveTo d oa os) p c d room) => q_leave h4 hI hcl hs oa os
  have HP := Lib.hid hP
  have HQ := Lib.hid hQ
  have HL := Lib.hid hl
  clear hP hQ hI hcl hs hl h hb hos hot
  unfold PTo at HP
  unfold QTo at HQ
  generalize leaveErr d oa os = er at *
  generalize leaveTo d oa os = dd at *
  unfold refV at *
  go_enter Try.func17, Try.ntmps17
  go_wp2_with (first | (go_at_call 21; go_loud (refine HP.out.mono ?_); rintro e w4 ⟨rfl, hp4, hk4⟩; replace D := nd_not D hk4; (try clear A0); (try clear A1); (try clear B0); (try clear B1); (try clear B2); (try clear B3); (try clear B4); (try clear C0); (try clear C1); (try clear zA); (try clear zC); have A0 := D.A0; have A1 := D.A1; have B0 := D.B0; have B1 := D.B1; have B2 := D.B2; have B3 := D.B3; have B4 := D.B4; have C0 := D.C0; have C1 := D.C1; have zA := D.zA; have zC := D.zC) | (go_at_call 22; go_loud (refine (HQ.out _ hp4).mono ?_); rintro e w5 ⟨p5, c5, rfl, hp5, hk5⟩; replace D := D.keep hk5 (fun h => h) (fun h => h) (fun h => h); (try clear A0); (try clear A1); (try clear B0); (try clear B1); (try clear B2); (try clear B3); (try clear B4); (try clear C0); (try clear C1); (try clear zA); (try clear zC); have A0 := D.A0; have A1 := D.A1; have B0 := D.B0; have B1 := D.B1; have B2 := D.B2; have B3 := D.B3; have B4 := D.B4; have C0 := D.C0; have C1 := D.C1; have zA := D.zA; have zC := D.zC))
  (try simp only [Exit.inBlock, Exit.then])
  refine bodyPost_ret (v := .tuple #[.agg #[.slice p5 dd.length c5, .int .i64 room], .bool true]) ?_ rfl ?_
  · rw [results_cell_tmp rfl]
    go_simp
  · refine do_end hp5 HL.out (((k3.of_none (F := fun g => ¬ N g)).trans (hk4.mono (fun g _ hg hN => hg (.inl hN)))).trans hk5.of_none) ?_
    exact (((keeps_set w5 ⟨w.heap.size, 0, none⟩ _).mono (fun b _ hb => .inl hb)).trans ((keeps_set _ ⟨w.heap.size, 1, none⟩ _).mono (fun b _ hb => .inl hb))).trans (((keeps_set _ ⟨w.heap.size + 2, 0, none⟩ _).mono (fun b _ hb => .inr hb)).trans ((keeps_set _ ⟨w.heap.size + 2, 1, none⟩ _).mono (fun b _ hb => .inr hb)))

theorem do_move (h : Pair N w a d p c d room) (hb : mass d + 2 ≤ 2147483648) (oa ob : Int) (os ot : ByteArray) (hos : os.size ≤ 300) (hot : ot.size ≤ 300) :
    Calls Try.prog 17 #[.pointer (some ⟨a, 0, none⟩), refV p c d room, .agg #[.int .i64 9, .int .i64 oa, .int .i64 ob, .string os, .string ot]] w (DoTo N w a (moveD d room oa os ob ot) room) := by
  have k3 : Keeps NoB w (((w.alloc (.cells #[.slice p d.length c, .int .i64 room] 39)).alloc (.cells #[.int .i64 9, .int .i64 oa, .int .i64 ob, .string os, .string ot] 31)).alloc (.cells #[.slice none 0 0, .int .i64 0] 39)) := ((((Keeps.refl NoB w).alloc _).alloc _).alloc _)
  have hI := h.inv
  have hcl := h.clean
  have hs := h.small
  have hl := h.low
  have D := dbox (Keeps.refl NoB (((w.alloc (.cells #[.slice p d.length c, .int .i64 room] 39)).alloc (.cells #[.int .i64 9, .int .i64 oa, .int .i64 ob, .string os, .string ot] 31)).alloc (.cells #[.slice none 0 0, .int .i64 0] 39)))
  have hP := p_move (do_start h k3 D.size) oa os ob ot (Nat.le_trans hot (by decide))
  have hQ := fun (w4 : World) (h4 : Pair (ND N w) w4 a (moveD d room oa os ob ot) p c d room) => q_move h4 hI hcl hs oa os ob ot (Nat.le_trans hot (by decide))
  have HP := Lib.hid hP
  have HQ := Lib.hid hQ
  have HL := Lib.hid hl
  clear hP hQ hI hcl hs hl h hb hos hot
  unfold PTo at HP
  unfold QTo at HQ
  generalize moveErr d room oa os ob ot = er at *
  generalize moveD d room oa os ob ot = dd at *
  unfold refV at *
  go_enter Try.func17, Try.ntmps17
  go_wp2_with (first | (go_at_call 29; go_loud (refine HP.out.mono ?_); rintro e w4 ⟨rfl, hp4, hk4⟩; replace D := nd_not D hk4; (try clear A0); (try clear A1); (try clear B0); (try clear B1); (try clear B2); (try clear B3); (try clear B4); (try clear C0); (try clear C1); (try clear zA); (try clear zC); have A0 := D.A0; have A1 := D.A1; have B0 := D.B0; have B1 := D.B1; have B2 := D.B2; have B3 := D.B3; have B4 := D.B4; have C0 := D.C0; have C1 := D.C1; have zA := D.zA; have zC := D.zC) | (go_at_call 28; go_loud (refine (HQ.out _ hp4).mono ?_); rintro e w5 ⟨p5, c5, rfl, hp5, hk5⟩; replace D := D.keep hk5 (fun h => h) (fun h => h) (fun h => h); (try clear A0); (try clear A1); (try clear B0); (try clear B1); (try clear B2); (try clear B3); (try clear B4); (try clear C0); (try clear C1); (try clear zA); (try clear zC); have A0 := D.A0; have A1 := D.A1; have B0 := D.B0; have B1 := D.B1; have B2 := D.B2; have B3 := D.B3; have B4 := D.B4; have C0 := D.C0; have C1 := D.C1; have zA := D.zA; have zC := D.zC))
  (try simp only [Exit.inBlock, Exit.then])
  refine bodyPost_ret (v := .tuple #[.agg #[.slice p5 dd.length c5, .int .i64 room], .bool true]) ?_ rfl ?_
  · rw [results_cell_tmp rfl]
    go_simp
  · refine do_end hp5 HL.out (((k3.of_none (F := fun g => ¬ N g)).trans (hk4.mono (fun g _ hg hN => hg (.inl hN)))).trans hk5.of_none) ?_
    exact (((keeps_set w5 ⟨w.heap.size, 0, none⟩ _).mono (fun b _ hb => .inl hb)).trans ((keeps_set _ ⟨w.heap.size, 1, none⟩ _).mono (fun b _ hb => .inl hb))).trans (((keeps_set _ ⟨w.heap.size + 2, 0, none⟩ _).mono (fun b _ hb => .inr hb)).trans ((keeps_set _ ⟨w.heap.size + 2, 1, none⟩ _).mono (fun b _ hb => .inr hb)))

end

end Go.Proofs.Ytbcejodnjeklpaa

/-
  Layer 4's statements: rooted, loop, small.
-/
namespace Go.Proofs.Ytbcejodnjeklpaa
open Go.RowKit
set_option maxRecDepth 100000
set_option maxHeartbeats 2000000

section
variable {S : Nat → Prop} {w : World} {p : Option Addr} {c : Nat} {d : Nds} {room : Int}

theorem rooted_any (h : RefAt S w p c d) (hI : DInv d) (hs : smallD d) (i other : Int) (hi : (nd d i).kind = 2) :
    Calls Try.prog 39 #[refV p c d room, .int .i64 i, .int .i64 other] w fun e w' => SaysIf w w' e (¬ Above d other i) := by
  have hcap := h.cap
  have hmax := h.max
  unfold maxLen at hmax
  have hlen := mass_ge d
  have h2 := hI.two
  have HU := Lib.hid (fun (w1 : World) (hk : Keeps NoB w w1) (x : Int) => r4up_any (room := room) (h.keepN hk) hI.zero (by omega) hs x)
  have HLk := Lib.hid (fun (w1 : World) (hk : Keeps NoB w w1) (x : Int) => r4links_any (room := room) (h.keepN hk) hI.zero (by omega) hs x)
  have HI := Lib.hid hI
  have hanc := ancs_le d i
  unfold smallD at hs
  clear h hI
  unfold refV at *
  go_enter Try.func39, Try.ntmps39
  go_wp2
  go_loopw [1, 10] (fun x s wr => ∃ (n : Nat) (id : Int), n ≤ d.length ∧ s = .int .i64 n ∧ x = .int .i64 id ∧ (nd d id).kind = 2 ∧ (Above d other id ↔ Above d other i) ∧ n + ancs d id ≤ d.length ∧ Keeps NoB (w.alloc (.cells #[.slice p d.length c, .int .i64 room] 39)) wr) (fun _ s _ => d.length + 1 - (intOf s).toNat)
  case atStart => exact ⟨0, i, Nat.zero_le _, rfl, rfl, hi, Iff.rfl, by omega, Keeps.refl _ _⟩
  case round =>
    rename_i wr
    obtain ⟨n, id, hn, rfl, rfl, hk2, hiff, hm, hkp⟩ := hrel
    have Hkp := Lib.hid hkp
    have Hk0 := Lib.hid (((Keeps.refl NoB w).alloc (.cells #[.slice p d.length c, .int .i64 room] 39)).trans hkp)
    have b0 : wr.cell? ⟨w.heap.size, 0, none⟩ = some (.slice p d.length c) := boxed hkp 0 _ rfl
    have b1 : wr.cell? ⟨w.heap.size, 1, none⟩ = some (.int .i64 room) := boxed hkp 1 _ rfl
    have Hiff := Lib.hid hiff
    have Hm := Lib.hid hm
    have Hk2 := Lib.hid hk2
    have hps := ancs_pos (setE_pos HI.out hk2)
    have hlk := HLk.out wr Hk0.out id
    have hlt : (n : Int) < (d.length : Int) := by omega
    clear hkp hiff hm hk2 hps
    by_cases e1 : id = other
    · have hb : (id == other) = true := by simpa using e1
      have He := Lib.hid e1
      clear e1 hlk
      go_wp2
      go_ret
      refine ⟨false, rfl, ⟨(fun h => by cases h), fun hn => absurd (Hiff.out.1 ?_) hn⟩, Hk0.out⟩
      rw [He.out]; exact .self
    · have hb : (id == other) = false := by simpa using e1
      have He := Lib.hid e1
      clear e1
      by_cases e2 : id = 1
      · subst e2
        clear hlk
        go_wp2
        go_ret
        exact ⟨true, rfl, ⟨fun _ ha => He.out ((above_top (no_par_root HI.out)).1 (Hiff.out.2 ha)).symm, fun _ => rfl⟩, Hk0.out⟩
      · have hb1 : (id == 1) = false := by simpa using e2
        have Hne := Lib.hid e2
        have HLK := Lib.hid hlk
        clear e2 hlk
        by_cases e3 : links d id = 0
        · have He3 := Lib.hid e3
          rw [e3] at HLK
          clear e3
          go_wp2_with (go_at_call 67; refine HLK.out.mono ?_; rintro e w2 ⟨rfl, hk2⟩)
          go_ret
          refine ⟨true, rfl, ⟨fun _ ha => ?_, fun _ => rfl⟩, Hk0.out.trans hk2⟩
          have hc : cnt d id = 0 := by have := He3.out; unfold links at this; omega
          exact He.out ((above_top (no_par_cnt hc)).1 (Hiff.out.2 ha)).symm
        · have He3 := Lib.hid e3
          have hlb : ((links d id : Int) == 0) = false := by simp; exact e3
          generalize (links d id : Int) = lks at *
          clear e3
          go_wp2_with (first | (go_at_call 67; go_loud (refine HLK.out.mono ?_; rintro e w2 ⟨rfl, hk2⟩; have b0' := (hk2.cell (p := ⟨w.heap.size, 0, none⟩) (lt_of_cell b0) (fun h => h)).trans b0; have b1' := (hk2.cell (p := ⟨w.heap.size, 1, none⟩) (lt_of_cell b1) (fun h => h)).trans b1)) | (go_at_call 70; refine (HU.out _ (Hk0.out.trans hk2) id).mono ?_; rintro e w3 ⟨u, rfl, hup, hk3⟩))
          go_roundw
          case rel =>
            have hp := (hup.par Hk2.out).resolve_left (fun h => by
              have h1 := He3.out
              have h2 := Hne.out
              unfold links at h1
              rw [h.1, if_neg h2] at h1
              exact h1 rfl)
            have hl := ancs_lt HI.out hp
            have hm' := Hm.out
            refine ⟨n + 1, u, by omega, by go_num, rfl, hp.dir HI.out, ?_, by omega, (Hkp.out.trans hk2).trans hk3⟩
            rw [← Hiff.out, above_par HI.out hp (fun e => He.out e.symm)]
          case measure => simp [intOf]; omega

/-- Would a directory come into one below it? -/
def LoopP (d : Nds) (o : Op4) : Prop := o.kind = 7 ∧ has d o.b ∧ (nd d o.b).kind = 2 ∧ folderErr d o.a = 0 ∧ Above d o.b o.a

theorem loop_any (h : RefAt S w p c d) (hI : DInv d) (hs : smallD d) (o : Op4) :
    Calls Try.prog 16 #[refV p c d room, .agg #[.int .i64 o.kind, .int .i64 o.a, .int .i64 o.b, .string o.s, .string o.t]] w fun e w' => SaysIf w w' e (LoopP d o) := by
  have hcap := h.cap
  have hmax := h.max
  unfold maxLen at hmax
  have k2 : Keeps NoB w ((w.alloc (.cells #[.slice p d.length c, .int .i64 room] 39)).alloc (.cells #[.int .i64 o.kind, .int .i64 o.a, .int .i64 o.b, .string o.s, .string o.t] 31)) := ((Keeps.refl _ _).alloc _).alloc _
  by_cases hk : o.kind = 7
  case neg =>
    have hb : (o.kind == 7) = false := by simpa using hk
    have HN : Hid (¬ LoopP d o) := fun h => hk h.1
    clear h hI hs hk
    unfold refV at *
    go_enter Try.func16, Try.ntmps16
    go_wp2
    go_ret
    exact ⟨false, rfl, ⟨(fun h => by cases h), fun h => absurd h HN.out⟩, k2⟩
  case pos =>
  have hb : (o.kind == 7) = true := by simpa using hk
  have HHa := Lib.hid (r4has_any (room := room) (h.keepN k2) hI.zero o.b)
  by_cases h1 : has d o.b
  case neg =>
    have HN : Hid (¬ LoopP d o) := fun h => h1 h.2.1
    rw [decide_eq_false h1] at HHa
    have K2 := Lib.hid k2
    clear h hI hs hk h1 k2
    unfold refV at *
    go_enter Try.func16, Try.ntmps16
    go_wp2_with (go_at_call 18; refine HHa.out.mono ?_; rintro e w3 ⟨rfl, hk3⟩)
    go_ret
    exact ⟨false, rfl, ⟨(fun h => by cases h), fun h => absurd h HN.out⟩, K2.out.trans hk3⟩
  case pos =>
  rw [decide_eq_true h1] at HHa
  obtain ⟨kb, hkb, hkl⟩ := has_nat h1
  rw [hkb] at h1 HHa
  obtain ⟨g, off, q, m, rfl, hSg, hrow⟩ := h.rowAt hkl
  have HC := Lib.hid (fun (w1 : World) (hk1 : Keeps NoB w w1) => (hrow.keepN hk1).c0)
  have HFo := Lib.hid (fun (w1 : World) (hk : Keeps NoB w w1) => r4folder_any (room := room) (h.keepN hk) hI.zero o.a)
  by_cases h2 : (nd d (kb : Int)).kind = 2
  case neg =>
    have HN : Hid (¬ LoopP d o) := fun h => h2 (by rw [← hkb]; exact h.2.2.1)
    have K2 := Lib.hid k2
    have hb2 : ((nd d (kb : Int)).kind == 2) = false := by simpa using h2
    obtain ⟨okind, oa, ob, os, ot⟩ := o
    simp only at hkb hb hk HHa HFo HN K2 ⊢
    subst hkb
    clear h hI hs hk h1 k2 h2 hrow HFo
    unfold refV at *
    generalize (nd d (kb : Int)).kind = kk at *
    go_enter Try.func16, Try.ntmps16
    go_wp2_with (go_at_call 18; refine HHa.out.mono ?_; rintro e w3 ⟨rfl, hk3⟩; have kk3 := K2.out.trans hk3; have R0 := HC.out _ kk3; obtain ⟨a1, a2, _, _, _⟩ := boxes2 hk3; have A0 : w3.cell? ⟨w.heap.size, 0, none⟩ = some (.slice (some ⟨g, off, none⟩) d.length c) := a1 0 _ rfl; have A1 : w3.cell? ⟨w.heap.size, 1, none⟩ = some (.int .i64 room) := a1 1 _ rfl; have B1 : w3.cell? ⟨w.heap.size + 1, 1, none⟩ = some (.int .i64 oa) := a2 1 _ rfl; have B2 : w3.cell? ⟨w.heap.size + 1, 2, none⟩ = some (.int .i64 (kb : Int)) := a2 2 _ rfl; clear a1 a2)
    go_ret
    exact ⟨false, rfl, ⟨(fun h => by cases h), fun h => absurd h HN.out⟩, kk3⟩
  case pos =>
  rw [h2] at HC
  by_cases h3 : folderErr d o.a = 0
  case neg =>
    have HN : Hid (¬ LoopP d o) := fun h => h3 h.2.2.2.1
    have K2 := Lib.hid k2
    obtain ⟨okind, oa, ob, os, ot⟩ := o
    simp only at hkb hb hk HHa HFo HN K2 h3 ⊢
    subst hkb
    have hb3 : (folderErr d oa == 0) = false := by simpa using h3
    clear h hI hs hk h1 k2 h2 hrow h3
    unfold refV at *
    generalize folderErr d oa = fe at *
    go_enter Try.func16, Try.ntmps16
    go_wp2_with (first | (go_at_call 18; refine HHa.out.mono ?_; rintro e w3 ⟨rfl, hk3⟩; have kk3 := K2.out.trans hk3; have R0 := HC.out _ kk3; obtain ⟨a1, a2, _, _, _⟩ := boxes2 hk3; have A0 : w3.cell? ⟨w.heap.size, 0, none⟩ = some (.slice (some ⟨g, off, none⟩) d.length c) := a1 0 _ rfl; have A1 : w3.cell? ⟨w.heap.size, 1, none⟩ = some (.int .i64 room) := a1 1 _ rfl; have B1 : w3.cell? ⟨w.heap.size + 1, 1, none⟩ = some (.int .i64 oa) := a2 1 _ rfl; have B2 : w3.cell? ⟨w.heap.size + 1, 2, none⟩ = some (.int .i64 (kb : Int)) := a2 2 _ rfl; clear a1 a2) | (go_at_call 38; refine (HFo.out _ kk3).mono ?_; rintro e w4 ⟨rfl, hk4⟩))
    go_ret
    exact ⟨false, rfl, ⟨(fun h => by cases h), fun h => absurd h HN.out⟩, kk3.trans hk4⟩
  case pos =>
    rw [h3] at HFo
    have HRo := Lib.hid (fun (w1 : World) (hk : Keeps NoB w w1) => rooted_any (room := room) (h.keepN hk) hI hs o.a o.b (folderErr_zero h3).2)
    have HY : Hid (Above d o.b o.a → LoopP d o) := fun ha => ⟨hk, by rw [hkb]; exact h1, by rw [hkb]; exact h2, h3, ha⟩
    have K2 := Lib.hid k2
    obtain ⟨okind, oa, ob, os, ot⟩ := o
    simp only at hkb hb hk HHa HFo HRo HY K2 h3 ⊢
    subst hkb
    clear h hI hs hk h1 k2 h2 hrow h3
    unfold refV at *
    go_enter Try.func16, Try.ntmps16
    go_wp2_with (first | (go_at_call 18; refine HHa.out.mono ?_; rintro e w3 ⟨rfl, hk3⟩; have kk3 := K2.out.trans hk3; have R0 := HC.out _ kk3; obtain ⟨a1, a2, _, _, _⟩ := boxes2 hk3; have A0 : w3.cell? ⟨w.heap.size, 0, none⟩ = some (.slice (some ⟨g, off, none⟩) d.length c) := a1 0 _ rfl; have A1 : w3.cell? ⟨w.heap.size, 1, none⟩ = some (.int .i64 room) := a1 1 _ rfl; have B1 : w3.cell? ⟨w.heap.size + 1, 1, none⟩ = some (.int .i64 oa) := a2 1 _ rfl; have B2 : w3.cell? ⟨w.heap.size + 1, 2, none⟩ = some (.int .i64 (kb : Int)) := a2 2 _ rfl; clear a1 a2; have lA := lt_of_cell A0; have lB := lt_of_cell B1) | (go_at_call 38; refine (HFo.out _ kk3).mono ?_; rintro e w4 ⟨rfl, hk4⟩; have kk4 := kk3.trans hk4; replace A0 := (hk4.cell (p := ⟨w.heap.size, 0, none⟩) lA (fun h => h)).trans A0; replace A1 := (hk4.cell (p := ⟨w.heap.size, 1, none⟩) (lt_of_cell A1) (fun h => h)).trans A1; replace B1 := (hk4.cell (p := ⟨w.heap.size + 1, 1, none⟩) lB (fun h => h)).trans B1; replace B2 := (hk4.cell (p := ⟨w.heap.size + 1, 2, none⟩) (lt_of_cell B2) (fun h => h)).trans B2) | (go_at_call 39; refine (HRo.out _ kk4).mono ?_; rintro e w5 ⟨b, rfl, hbb, hk5⟩))
    go_ret
    refine ⟨!b, rfl, ?_, kk4.trans hk5⟩
    cases b with
    | true => exact ⟨(fun h => by cases h), fun h => absurd h.2.2.2.2 (hbb.1 rfl)⟩
    | false => exact ⟨fun _ => HY.out (Classical.byContradiction fun hn => by have := hbb.2 hn; cases this), fun _ => rfl⟩

end

end Go.Proofs.Ytbcejodnjeklpaa

/-
  Layer 4's statements: small, do of any call, what it does to the size.
-/
namespace Go.Proofs.Ytbcejodnjeklpaa
open Go.RowKit
set_option maxRecDepth 100000
set_option maxHeartbeats 2000000

def SmallOp (o : Op4) : Prop := o.s.size ≤ 300 ∧ o.t.size ≤ 300 ∧ (o.kind = 5 → 1000 < o.b → ¬ o.b < 4194304)
def Small (l : List Op4) : Prop := (∀ o ∈ l, SmallOp o) ∧ l.length ≤ 60

theorem small_any {S : Nat → Prop} {w : World} {p : Option Addr} {c : Nat} {l : List Op4} (h : SlAt encOp4 S w p c l) :
    Calls Try.prog 14 #[.slice p l.length c] w fun e w' => SaysIf w w' e (Small l) := by
  have hcap := h.cap
  have hmax := h.max
  unfold maxLen at hmax
  go_enter Try.func14, Try.ntmps14
  go_wp2
  go_loopw [7] (fun s wr => ∃ n : Nat, n ≤ l.length ∧ s = .int .i64 n ∧ (∀ j o, j < n → l[j]? = some o → SmallOp o) ∧ Keeps NoB w wr) (fun s _ => l.length + 1 - (intOf s).toNat)
  case atStart => exact ⟨0, Nat.zero_le _, rfl, fun j o hj => by omega, Keeps.refl _ _⟩
  case round =>
    rename_i wr
    obtain ⟨n, hn, rfl, hall, hk⟩ := hrel
    have Hall := Lib.hid hall
    have Hk := Lib.hid hk
    clear hall hk
    by_cases hlt : n < l.length
    · obtain ⟨o, hx⟩ : ∃ o, l[n]? = some o := ⟨_, List.getElem?_eq_getElem hlt⟩
      obtain ⟨g, off, rfl, hS, hg, c0, c1, c2, c3, c4⟩ := (h.keepN Hk.out).op4 hx
      have Hx := Lib.hid hx
      have hneg : ¬ SmallOp o → ¬ Small l := fun h1 h2 => h1 (h2.1 o (List.mem_of_getElem? hx))
      have Hneg := Lib.hid hneg
      clear hx hneg
      by_cases d1 : 300 < o.s.size
      · have d1' : (300 : Int) < (o.s.size : Int) := by omega
        go_wp2
        go_ret
        exact ⟨false, rfl, ⟨(fun h => by cases h), fun h => absurd h (Hneg.out (fun h => by have := h.1; omega))⟩, Hk.out.alloc _⟩
      have d1' : ¬ ((300 : Int) < (o.s.size : Int)) := by omega
      by_cases d2 : 300 < o.t.size
      · have d2' : (300 : Int) < (o.t.size : Int) := by omega
        go_wp2
        go_ret
        exact ⟨false, rfl, ⟨(fun h => by cases h), fun h => absurd h (Hneg.out (fun h => by have := h.2.1; omega))⟩, Hk.out.alloc _⟩
      have d2' : ¬ ((300 : Int) < (o.t.size : Int)) := by omega
      have hgo : SmallOp o → ∀ j x, j < n + 1 → l[j]? = some x → SmallOp x := fun ho j x hj hx => by
        by_cases e : j = n
        · subst e; rw [Hx.out] at hx; cases hx; exact ho
        · exact Hall.out j x (by omega) hx
      have Hgo := Lib.hid hgo
      clear hgo
      by_cases d3 : o.kind = 5
      case neg =>
        have hb : (o.kind == 5) = false := by simpa using d3
        have HO : Hid (SmallOp o) := ⟨by omega, by omega, fun h => absurd h d3⟩
        clear d3
        go_wp2
        go_roundw
        case rel => exact ⟨n + 1, by omega, by go_num, Hgo.out HO.out, Hk.out.alloc _⟩
        case measure => simp [intOf]; omega
      case pos =>
      have hb : (o.kind == 5) = true := by simpa using d3
      by_cases d4 : 1000 < o.b
      case neg =>
        have HO : Hid (SmallOp o) := ⟨by omega, by omega, fun _ h => absurd h d4⟩
        clear d3
        go_wp2
        go_roundw
        case rel => exact ⟨n + 1, by omega, by go_num, Hgo.out HO.out, Hk.out.alloc _⟩
        case measure => simp [intOf]; omega
      case pos =>
      by_cases d5 : o.b < 4194304
      case neg =>
        have HO : Hid (SmallOp o) := ⟨by omega, by omega, fun _ _ => d5⟩
        clear d3
        go_wp2
        go_roundw
        case rel => exact ⟨n + 1, by omega, by go_num, Hgo.out HO.out, Hk.out.alloc _⟩
        case measure => simp [intOf]; omega
      case pos =>
        have HN : Hid (¬ SmallOp o) := fun h => h.2.2 d3 d4 d5
        clear d3
        go_wp2
        go_ret
        exact ⟨false, rfl, ⟨(fun h => by cases h), fun h => absurd h (Hneg.out HN.out)⟩, Hk.out.alloc _⟩
    · obtain rfl : n = l.length := by omega
      have HY : Hid (Small l ↔ l.length ≤ 60) := ⟨fun h => h.2, fun h => ⟨fun o ho => by
        obtain ⟨j, hj⟩ := List.mem_iff_getElem?.1 ho
        exact Hall.out j o (List.getElem?_eq_some_iff.1 hj).1 hj, h⟩⟩
      go_wp2
      go_ret
      refine ⟨decide (l.length ≤ 60), ?_, ?_, Hk.out⟩
      · exact ret_bool (by simp; omega)
      · rw [HY.out]; simp

section
variable {N : Nat → Prop} {w : World} {a : Nat} {d : Nds} {p : Option Addr} {c : Nat} {room : Int}

theorem do_make (h : Pair N w a d p c d room) (hb : mass d + 2 ≤ 2147483648) (oa ob : Int) (os ot : ByteArray) (hos : os.size ≤ 300) :
    Calls Try.prog 17 #[.pointer (some ⟨a, 0, none⟩), refV p c d room, .agg #[.int .i64 1, .int .i64 oa, .int .i64 ob, .string os, .string ot]] w (DoTo N w a (makeTo d room oa ob os) room) := by
  have k3 : Keeps NoB w (((w.alloc (.cells #[.slice p d.length c, .int .i64 room] 39)).alloc (.cells #[.int .i64 1, .int .i64 oa, .int .i64 ob, .string os, .string ot] 31)).alloc (.cells #[.slice none 0 0, .int .i64 0] 39)) := ((((Keeps.refl NoB w).alloc _).alloc _).alloc _)
  have hI := h.inv
  have hcl := h.clean
  have hs := h.small
  have hl := h.low
  have D := dbox (Keeps.refl NoB (((w.alloc (.cells #[.slice p d.length c, .int .i64 room] 39)).alloc (.cells #[.int .i64 1, .int .i64 oa, .int .i64 ob, .string os, .string ot] 31)).alloc (.cells #[.slice none 0 0, .int .i64 0] 39)))
  have hP := p_make (do_start h k3 D.size) oa ob os hb (Nat.le_trans hos (by decide))
  have hQ := fun (w4 : World) (h4 : Pair (ND N w) w4 a (makeTo d room oa ob os) p c d room) => q_make h4 hI hs oa ob os (Nat.le_trans hos (by decide))
  have HP := Lib.hid hP
  have HQ := Lib.hid hQ
  have HL := Lib.hid hl
  clear hP hQ hI hcl hs hl h hb hos
  unfold PTo at HP
  unfold QTo at HQ
  generalize makeErr d room oa ob os = er at *
  generalize makeId d room oa ob os = id at *
  generalize makeTo d room oa ob os = dd at *
  unfold refV at *
  go_enter Try.func17, Try.ntmps17
  go_wp2_with (first | (go_at_call 10; go_loud (refine HP.out.mono ?_); rintro e w4 ⟨rfl, hp4, hk4⟩; replace D := nd_not D hk4; (try clear A0 A1 B0 B1 B2 B3 B4 C0 C1 zA zC); have A0 := D.A0; have A1 := D.A1; have B0 := D.B0; have B1 := D.B1; have B2 := D.B2; have B3 := D.B3; have B4 := D.B4; have C0 := D.C0; have C1 := D.C1; have zA := D.zA; have zC := D.zC) | (go_at_call 40; go_loud (refine (HQ.out _ hp4).mono ?_); rintro e w5 ⟨p5, c5, rfl, hp5, hk5⟩; replace D := D.keep hk5 (fun h => h) (fun h => h) (fun h => h); (try clear A0 A1 B0 B1 B2 B3 B4 C0 C1 zA zC); have A0 := D.A0; have A1 := D.A1; have B0 := D.B0; have B1 := D.B1; have B2 := D.B2; have B3 := D.B3; have B4 := D.B4; have C0 := D.C0; have C1 := D.C1; have zA := D.zA; have zC := D.zC; have hsz5 := D.size; have nC : ¬ w.heap.size + 2 = w5.heap.size := (by omega); have lC : w.heap.size + 2 < w5.heap.size := (by omega)))
  (try simp only [Exit.inBlock, Exit.then])
  refine bodyPost_ret (v := .tuple #[.agg #[.slice p5 dd.length c5, .int .i64 room], .bool true]) ?_ rfl ?_
  · rw [results_cell_tmp rfl]
    go_simp
  · refine do_end hp5 HL.out (((k3.of_none (F := fun g => ¬ N g)).trans (hk4.mono (fun g _ hg hN => hg (.inl hN)))).trans hk5.of_none) ?_
    exact (((keeps_set w5 ⟨w.heap.size + 1 + 1, 0, none⟩ _).mono (F := fun b => b = w.heap.size + 1 + 1) (G := fun b => b = w.heap.size ∨ b = w.heap.size + 2) (fun b _ hb => .inr hb)).trans ((keeps_set _ ⟨w.heap.size + 1 + 1, 1, none⟩ _).mono (F := fun b => b = w.heap.size + 1 + 1) (fun b _ hb => .inr hb))).alloc _

theorem do_none (h : Pair N w a d p c d room) (o : Op4) (n1 : o.kind ≠ 1) (n2 : o.kind ≠ 2) (n3 : o.kind ≠ 3) (n4 : o.kind ≠ 4) (n5 : o.kind ≠ 5) (n6 : o.kind ≠ 6) (n7 : o.kind ≠ 7) (n8 : o.kind ≠ 8) (n9 : o.kind ≠ 9) :
    Calls Try.prog 17 #[.pointer (some ⟨a, 0, none⟩), refV p c d room, .agg #[.int .i64 o.kind, .int .i64 o.a, .int .i64 o.b, .string o.s, .string o.t]] w (DoTo N w a d room) := by
  have k3 : Keeps NoB w (((w.alloc (.cells #[.slice p d.length c, .int .i64 room] 39)).alloc (.cells #[.int .i64 o.kind, .int .i64 o.a, .int .i64 o.b, .string o.s, .string o.t] 31)).alloc (.cells #[.slice p d.length c, .int .i64 room] 39)) := ((((Keeps.refl NoB w).alloc _).alloc _).alloc _)
  have b1 : (o.kind == 1) = false := by simpa using n1
  have b2 : (o.kind == 2) = false := by simpa using n2
  have b3 : (o.kind == 3) = false := by simpa using n3
  have b4 : (o.kind == 4) = false := by simpa using n4
  have b5 : (o.kind == 5) = false := by simpa using n5
  have b6 : (o.kind == 6) = false := by simpa using n6
  have b7 : (o.kind == 7) = false := by simpa using n7
  have b8 : (o.kind == 8) = false := by simpa using n8
  have b9 : (o.kind == 9) = false := by simpa using n9
  have H := Lib.hid h
  have K3 := Lib.hid k3
  clear n1 n2 n3 n4 n5 n6 n7 n8 n9 h k3
  unfold refV at *
  go_enter Try.func17, Try.ntmps17
  go_wp2
  (try simp only [Exit.inBlock, Exit.then])
  refine bodyPost_ret (v := .tuple #[.agg #[.slice p d.length c, .int .i64 room], .bool true]) ?_ rfl ?_
  · rw [results_cell_tmp rfl]
    go_simp
  · exact ⟨p, c, rfl, H.out.on K3.out, K3.out.of_none⟩

/-- do of any call. -/
theorem do_any (h : Pair N w a d p c d room) (hb : mass d + 2 ≤ 2147483648) (o : Op4) (hos : o.s.size ≤ 300) (hot : o.t.size ≤ 300) (hno : ¬ LoopP d o) :
    Calls Try.prog 17 #[.pointer (some ⟨a, 0, none⟩), refV p c d room, .agg #[.int .i64 o.kind, .int .i64 o.a, .int .i64 o.b, .string o.s, .string o.t]] w (DoTo N w a (stepD d room o) room) := by
  obtain ⟨kind, oa, ob, os, ot⟩ := o
  simp only at hos hot ⊢
  unfold stepD
  simp only
  by_cases n1 : kind = 1
  · subst n1; rw [if_pos rfl]; exact do_make h hb oa ob os ot hos
  rw [if_neg n1]
  by_cases n2 : kind = 2
  · subst n2; rw [if_pos rfl]; exact do_hold h hb oa ob os ot hos hot
  rw [if_neg n2]
  by_cases n3 : kind = 3
  · subst n3; rw [if_pos rfl]; exact do_rel h hb oa ob os ot hos hot
  rw [if_neg n3]
  by_cases n4 : kind = 4
  · subst n4; rw [if_pos rfl]; exact do_chmod h hb oa ob os ot hos hot
  rw [if_neg n4]
  by_cases n5 : kind = 5
  · subst n5; rw [if_pos rfl]; exact do_write h hb oa ob os ot hos hot
  rw [if_neg n5]
  by_cases n6 : kind = 6
  · subst n6; rw [if_pos rfl]; exact do_empty h hb oa ob os ot hos hot
  rw [if_neg n6]
  by_cases n7 : kind = 7
  · subst n7; rw [if_pos rfl]
    exact do_enter h hb oa ob os ot hos hot (fun hf hk ha => hno ⟨rfl, by unfold has; simp only; rw [hk]; decide, hk, hf, ha⟩)
  rw [if_neg n7]
  by_cases n8 : kind = 8
  · subst n8; rw [if_pos rfl]; exact do_leave h hb oa ob os ot hos hot
  rw [if_neg n8]
  by_cases n9 : kind = 9
  · subst n9; rw [if_pos rfl]; exact do_move h hb oa ob os ot hos hot
  rw [if_neg n9]
  exact do_none h ⟨kind, oa, ob, os, ot⟩ n1 n2 n3 n4 n5 n6 n7 n8 n9

end

theorem gc_mass (d : Nds) : mass (gc d) ≤ mass d := (gc_kills d).mass

/-- A call adds at most two. -/
theorem stepD_mass {d : Nds} (hI : DInv d) (room : Int) (o : Op4) : mass (stepD d room o) ≤ mass d + 2 := by
  have hup : ∀ i n, has d i → mass1 n ≤ mass1 (nd d i) + 1 → mass (upd d i n) ≤ mass d + 1 := fun i n hi hm => by
    have := mass_upd (n := n) hi
    omega
  unfold stepD
  split
  · unfold makeTo
    split
    · have := sumBy_append mass1 d (newNd o.a o.b o.s)
      have e : mass1 (newNd o.a o.b o.s) = 2 := rfl
      unfold mass
      omega
    · omega
  split
  · unfold holdD
    split
    · next hi =>
      have := hup o.a ((nd d o.a).setHolds ((nd d o.a).holds + 1)) hi (by unfold mass1; simp only [Nd.setHolds]; omega)
      unfold holdTo
      omega
    · omega
  split
  · unfold relD
    split
    · next he =>
      have hi : has d o.a := by
        unfold relErr at he
        split at he
        · cases he
        · next h => exact h
      have := hup o.a ((nd d o.a).setHolds ((nd d o.a).holds - 1)) hi (by unfold mass1; simp only [Nd.setHolds]; omega)
      have := gc_mass (relTo d o.a)
      unfold relTo at *
      omega
    · omega
  split
  · unfold chmodD
    split
    · next he =>
      have hi : has d o.a := by
        unfold chmodErr at he
        split at he
        · cases he
        · next h => exact h
      have := hup o.a ((nd d o.a).setMode o.b) hi (by unfold mass1; simp only [Nd.setMode]; omega)
      unfold chmodTo
      omega
    · omega
  split
  · unfold writeTo
    split
    · next he =>
      have hi : has d o.a := by
        have h1 := he.1
        unfold writeErr at h1
        split at h1
        · next e => exact absurd h1 e
        · next e => exact (fileErr_zero (Classical.not_not.1 e)).1
      have := hup o.a (writeNd (nd d o.a) o.b.toNat o.s) hi (by unfold mass1 writeNd; simp only [Nd.setData]; omega)
      omega
    · omega
  split
  · unfold emptyD
    split
    · next he =>
      have hi := (fileErr_zero he).1
      have := hup o.a ((nd d o.a).setData ⟨#[]⟩) hi (by unfold mass1; simp only [Nd.setData]; omega)
      unfold emptyTo
      omega
    · omega
  split
  · unfold enterD
    split
    · next he =>
      have hf : folderErr d o.a = 0 := by
        unfold enterErr at he
        split at he
        · next e => exact absurd he e
        · next e => exact Classical.not_not.1 e
      have hi := (folderErr_zero hf).1
      have hp : putErr (nd d o.a).ents o.s = 0 := by
        unfold enterErr at he
        rw [if_neg (by simpa using hf)] at he
        split at he; · cases he
        split at he; · cases he
        split at he; · cases he
        split at he
        · next e => exact absurd he e
        · next e => exact Classical.not_not.1 e
      have := enter_mass (k := o.b) hi hp
      omega
    · omega
  split
  · unfold leaveTo
    split
    · next he =>
      have h0 : lookErr d o.a o.s = 0 := by
        unfold leaveErr at he
        split at he
        · next e => exact absurd he e
        · next e => exact Classical.not_not.1 e
      obtain ⟨f0, hg⟩ := lookErr_zero h0
      have := drop_mass hI (folderErr_zero f0).1 hg
      have := gc_mass (dropTo d o.a o.s)
      omega
    · omega
  split
  · unfold moveD
    split
    · next he =>
      obtain ⟨he, hne⟩ := he
      have h0 : lookErr d o.a o.s = 0 := by
        refine Classical.byContradiction fun h => ?_
        rw [moveErr_look h] at he; exact h he
      have h1 : folderErr d o.b = 0 := by
        refine Classical.byContradiction fun h => ?_
        rw [moveErr_fold h0 h] at he; exact h he
      have h2 : ¬ ((nd d (lookOf d o.a o.s)).kind = 2 ∧ Above d (lookOf d o.a o.s) o.b) := fun h => by
        rw [moveErr_busy h0 h1 h] at he; cases he
      rw [moveErr_two h0 h1 h2] at he
      obtain ⟨f0, hg⟩ := lookErr_zero h0
      have M : MoveOk d o.a o.s o.b o.t (lookOf d o.a o.s) := MoveOk.mk' hI (folderErr_zero f0).2 (folderErr_zero h1).2 hg hne (fun hh => by
        have hn : entGet (nd d o.b).ents o.t = none := by
          cases hx : entGet (nd d o.b).ents o.t with
          | none => rfl
          | some y => rw [entGet_has hx] at hh; cases hh
        unfold moveErr2 at he
        rw [hn] at he
        unfold movedErr at he
        rw [hh] at he
        simp only [Bool.false_eq_true, if_false] at he
        split at he
        · next e => exact absurd he e
        · next e => exact Classical.not_not.1 e) (fun hk ha => h2 ⟨hk, ha⟩)
      have := M.mass
      have := gc_mass (moveTo d o.a o.s o.b o.t (lookOf d o.a o.s))
      omega
    · omega
  · omega

end Go.Proofs.Ytbcejodnjeklpaa

/-
  Layer 4's statements: what a law holds between the calls.
-/
namespace Go.Proofs.Ytbcejodnjeklpaa
open Go.RowKit
set_option maxRecDepth 100000
set_option maxHeartbeats 1000000

/-- A law holds both disks; the reference's lies in the variable X; what was there before the law, at W, is neither's. -/
structure LawAt (W w : World) (X a : Nat) (p : Option Addr) (c : Nat) (d : Nds) (room : Int) : Prop where
  pair : Pair (fun g => g < W.heap.size ∨ g = X) w a d p c d room
  X0 : w.cell? ⟨X, 0, none⟩ = some (.slice p d.length c)
  X1 : w.cell? ⟨X, 1, none⟩ = some (.int .i64 room)
  zX : ∀ j, w.frozen? ⟨X, j, none⟩ = false
  keeps : Keeps NoB W w
  new : W.heap.size ≤ X

theorem pair_new {W w : World} {a : Nat} {room : Int} (h : HereTo W w a newD room) :
    Calls Try.prog 15 #[.int .i64 room] w fun e w' => ∃ p c, e = .returned (refV p c newD room) ∧ Pair (fun g => g < W.heap.size) w' a newD p c newD room ∧ Keeps NoB W w' := by
  obtain ⟨R, h⟩ := h
  have hs := h.keeps.size
  refine (r4new_any (S := fun g => R.tag g = .none ∧ ¬ g < W.heap.size) w room (fun g hg => ⟨h.disk.tagTop g hg, by omega⟩)).mono ?_
  rintro e w' ⟨p, c, rfl, h1, h2⟩
  have := h2.size
  exact ⟨p, c, rfl, ⟨fun x hx => by omega, R, h.disk.keepN h2, h.tag, h1⟩, h.keeps.trans h2⟩

section
variable {W w w' : World} {X a : Nat} {p : Option Addr} {c : Nat} {d : Nds} {room : Int}

theorem LawAt.lt (h : LawAt W w X a p c d room) : X < w.heap.size := lt_of_cell h.X0
theorem LawAt.on (h : LawAt W w X a p c d room) (k : Keeps NoB w w') : LawAt W w' X a p c d room :=
  ⟨h.pair.on k, (k.cell (p := ⟨X, 0, none⟩) h.lt (fun h => h)).trans h.X0, (k.cell (p := ⟨X, 1, none⟩) h.lt (fun h => h)).trans h.X1, fun j => (k.frozen (p := ⟨X, j, none⟩) h.lt (fun h => h)).trans (h.zX j), h.keeps.trans k, h.new⟩

/-- The reference's disk is laid into its variable. -/
theorem LawAt.start (h : Pair (fun g => g < W.heap.size) w a d p c d room) (k : Keeps NoB W w) (T : TypeId) : LawAt W (w.alloc (.cells #[.slice p d.length c, .int .i64 room] T)) w.heap.size a p c d room := by
  have k1 : Keeps NoB w (w.alloc (.cells #[.slice p d.length c, .int .i64 room] T)) := (Keeps.refl _ _).alloc _
  have hk := Keeps.refl NoB (w.alloc (.cells #[.slice p d.length c, .int .i64 room] T))
  have := k.size
  exact ⟨h.grow k1 (fun x hx => by rcases hx with e | e; exact .inl e; exact .inr ⟨by omega, by rw [e]; simp⟩), boxed hk 0 _ rfl, boxed hk 1 _ rfl, boxedz hk, k.trans k1, this⟩

/-- do, in a law. -/
def LawDo (W : World) (X a : Nat) (p : Option Addr) (c : Nat) (d : Nds) (room : Int) (d' : Nds) (w0 : World) : Ending → World → Prop := fun e w3 =>
  ∃ p' c', e = .returned (.tuple #[refV p' c' d' room, .bool true]) ∧ w3.cell? ⟨X, 0, none⟩ = some (.slice p d.length c) ∧ w3.cell? ⟨X, 1, none⟩ = some (.int .i64 room) ∧ (∀ j, w3.frozen? ⟨X, j, none⟩ = false) ∧
    LawAt W ((w3.setCell ⟨X, 0, none⟩ (.slice p' d'.length c')).setCell ⟨X, 1, none⟩ (.int .i64 room)) X a p' c' d' room ∧ Keeps (fun g => ¬ (g < W.heap.size ∨ g = X)) w0 w3

theorem law_do (h : LawAt W w X a p c d room) (hb : mass d + 2 ≤ 2147483648) (o : Op4) (hos : o.s.size ≤ 300) (hot : o.t.size ≤ 300) (hno : ¬ LoopP d o) :
    Calls Try.prog 17 #[.pointer (some ⟨a, 0, none⟩), refV p c d room, .agg #[.int .i64 o.kind, .int .i64 o.a, .int .i64 o.b, .string o.s, .string o.t]] w (LawDo W X a p c d room (stepD d room o) w) := by
  refine (do_any h.pair hb o hos hot hno).mono ?_
  rintro e w3 ⟨p', c', rfl, hp, hk⟩
  have hlt := h.lt
  have x0 := (hk.cell (p := ⟨X, 0, none⟩) hlt (fun h => h (.inr rfl))).trans h.X0
  have x1 := (hk.cell (p := ⟨X, 1, none⟩) hlt (fun h => h (.inr rfl))).trans h.X1
  have zx := fun j => (hk.frozen (p := ⟨X, j, none⟩) hlt (fun h => h (.inr rfl))).trans (h.zX j)
  have kk : Keeps (fun b => b = X) w3 ((w3.setCell ⟨X, 0, none⟩ (.slice p' (stepD d room o).length c')).setCell ⟨X, 1, none⟩ (.int .i64 room)) := (keeps_set w3 ⟨X, 0, none⟩ _).trans (keeps_set _ ⟨X, 1, none⟩ _)
  refine ⟨p', c', rfl, x0, x1, zx, ⟨hp.keep kk (fun x _ hx => .inr hx), ?_, ?_, fun j => (frozen_set _ _ _ _).trans ((frozen_set _ _ _ _).trans (zx j)), ?_, h.new⟩, hk⟩
  · have h1 := cell_set (g := X) (k := 0) (u := .slice p' (stepD d room o).length c') (j := 0) x0
    rw [if_pos rfl] at h1
    have h2 := cell_set (g := X) (k := 1) (u := .int .i64 room) (j := 0) h1
    rw [if_neg (by decide)] at h2
    exact h2
  · have h1 := cell_set (g := X) (k := 0) (u := .slice p' (stepD d room o).length c') (j := 1) x1
    rw [if_neg (by decide)] at h1
    have h2 := cell_set (g := X) (k := 1) (u := .int .i64 room) (j := 1) h1
    rw [if_pos rfl] at h2
    exact h2
  · exact (h.keeps.step hk (fun b hb => .inr (by have := hb; omega))).step kk (fun b hb => .inr (by rw [hb]; exact h.new))

/-- loop, in a law. -/
theorem law_loop (h : LawAt W w X a p c d room) (o : Op4) (b : Bool) (hb : b = true ↔ LoopP d o) :
    Calls Try.prog 16 #[refV p c d room, .agg #[.int .i64 o.kind, .int .i64 o.a, .int .i64 o.b, .string o.s, .string o.t]] w fun e w' => e = .returned (.bool b) ∧ Keeps NoB w w' :=
  h.pair.asks fun S hr => (loop_any hr h.pair.inv h.pair.small o).mono (by
    rintro e w' ⟨b', rfl, h1, h2⟩
    have : b' = b := by rw [Bool.eq_iff_iff, h1, hb]
    rw [this]
    exact ⟨rfl, h2⟩)

end

end Go.Proofs.Ytbcejodnjeklpaa
