/-
  The statements of layer 4: their calls, their anchor.
-/
import Derived.Test.YtbcejodnjeklpaaDiskW11
import Derived.Test.YtbcejodnjeklpaaDiskW8
namespace Go.Proofs.Ytbcejodnjeklpaa
open Go.RowKit
set_option maxRecDepth 100000
set_option maxHeartbeats 1000000

/-- A call of the statement. -/
structure Op4 where
  kind : Int
  a : Int
  b : Int
  s : ByteArray
  t : ByteArray

def encOp4 : Enc Op4 where
  enc := fun o => [.int .i64 o.kind, .int .i64 o.a, .int .i64 o.b, .string o.s, .string o.t]
  k := 5
  pos := by decide
  len := fun _ => rfl
  one := fun x v hv => by simp at hv; rcases hv with rfl | rfl | rfl | rfl | rfl <;> rfl

theorem SlAt.op4 {S : Nat → Prop} {w : World} {p : Option Addr} {c : Nat} {l : List Op4} (h : SlAt encOp4 S w p c l) {i : Nat} {x : Op4} (hi : l[i]? = some x) :
    ∃ g off, p = some ⟨g, off, none⟩ ∧ S g ∧ g < w.heap.size ∧ w.cell? ⟨g, off + i * 5, none⟩ = some (.int .i64 x.kind) ∧ w.cell? ⟨g, off + i * 5 + 1, none⟩ = some (.int .i64 x.a) ∧
      w.cell? ⟨g, off + i * 5 + 2, none⟩ = some (.int .i64 x.b) ∧ w.cell? ⟨g, off + i * 5 + 3, none⟩ = some (.string x.s) ∧ w.cell? ⟨g, off + i * 5 + 4, none⟩ = some (.string x.t) := by
  obtain ⟨g, off, hp, hS, hg, hc⟩ := h.at hi
  exact ⟨g, off, hp, hS, hg, hc 0 _ rfl, (by have := hc 1 _ rfl; rwa [← Nat.add_assoc] at this), (by have := hc 2 _ rfl; rwa [← Nat.add_assoc] at this), (by have := hc 3 _ rfl; rwa [← Nat.add_assoc] at this), (by have := hc 4 _ rfl; rwa [← Nat.add_assoc] at this)⟩

def TrueEnd (W w : World) (e : Ending) : Prop := e = .returned (.bool true) ∧ Keeps NoB W w

theorem newD_nil (W w : World) (a : Nat) (room : Int) (d : Nds) (h : HereTo W w a d room) : Keeps NoB W w := by obtain ⟨R, h⟩ := h; exact h.keeps

-- the anchor's disks
def anc1 : Nds := [Nd.gone, rootNd, newNd 1 0 ⟨#[97, 98, 99]⟩]
def anc2 : Nds := [Nd.gone, rootNd.setEnts [(⟨#[120]⟩, 2)], newNd 1 0 ⟨#[97, 98, 99]⟩]
def anc3 : Nds := [Nd.gone, rootNd.setEnts [(⟨#[120]⟩, 2)], (newNd 1 0 ⟨#[97, 98, 99]⟩).setHolds 0]

theorem anc_make : makeErr newD 100 1 0 ⟨#[97, 98, 99]⟩ = 0 := by decide +kernel
theorem anc_enter : enterErr anc1 100 1 ⟨#[120]⟩ 2 = 0 := by decide +kernel
theorem anc_enterTo : enterD anc1 100 1 ⟨#[120]⟩ 2 = anc2 := by
  unfold enterD
  rw [if_pos anc_enter]
  rfl
theorem anc_rel : relErr anc2 2 = 0 := by decide +kernel
theorem anc_relTo : relTo anc2 2 = anc3 := rfl
theorem anc_clean : NoGarb anc3 := by
  intro j hj
  obtain ⟨h1, h2, h3⟩ := hj
  have hr := has_range h1
  have hl : anc3.length = 3 := rfl
  rw [hl] at hr
  have : j = 0 ∨ j = 1 ∨ j = 2 := by omega
  rcases this with rfl | rfl | rfl
  · exact h1 rfl
  · revert h2; decide +kernel
  · revert h2; decide +kernel
theorem anc_used : used anc3 = 4 := by decide +kernel

theorem new_ok (w : World) (room : Int) (hr : 0 ≤ room) (hr2 : room ≤ 9223372036854775807) : Calls Try.prog 9 #[.int .i64 room] w fun e w' =>
    ∃ a, e = .returned (.tuple #[.pointer (some ⟨a, 0, none⟩), .int .i64 0]) ∧ HereTo w w' a newD room :=
  (new_any w room hr2).mono fun e w' h => by rw [if_neg (by omega)] at h; exact h

theorem anc_c1 {W w : World} {a : Nat} (h : HereTo W w a newD 100) : Calls Try.prog 10 #[.pointer (some ⟨a, 0, none⟩), .int .i64 1, .int .i64 0, .string ⟨#[97, 98, 99]⟩] w fun e w' => e = .returned (.tuple #[.int .i64 2, .int .i64 0]) ∧ HereTo W w' a anc1 100 := by
  obtain ⟨R, h⟩ := h
  refine (makeD_any h.disk 1 0 ⟨#[97, 98, 99]⟩ (by decide) (by decide)).mono fun e w' ⟨h1, h2⟩ => ?_
  have e1 : makeId newD 100 1 0 ⟨#[97, 98, 99]⟩ = 2 := by unfold makeId; rw [if_pos anc_make]; rfl
  have e2 : makeTo newD 100 1 0 ⟨#[97, 98, 99]⟩ = anc1 := by unfold makeTo; rw [if_pos anc_make]; rfl
  rw [e1, anc_make] at h1
  rw [e2] at h2
  exact ⟨h1, h.to h2⟩

theorem anc_c2 {W w : World} {a : Nat} (h : HereTo W w a anc1 100) : Calls Try.prog 34 #[.pointer (some ⟨a, 0, none⟩), .int .i64 1, .string ⟨#[120]⟩, .int .i64 2] w fun e w' => e = .returned (.int .i64 0) ∧ HereTo W w' a anc2 100 := by
  obtain ⟨R, h⟩ := h
  refine (enterD_any h.disk 1 ⟨#[120]⟩ 2 (by decide) (by decide) (fun _ hh => absurd hh (by decide))).mono fun e w' ⟨h1, h2⟩ => ?_
  rw [anc_enter] at h1
  rw [anc_enterTo] at h2
  exact ⟨h1, h.to h2⟩

theorem anc_c3 {W w : World} {a : Nat} (h : HereTo W w a anc2 100) : Calls Try.prog 19 #[.pointer (some ⟨a, 0, none⟩), .int .i64 2] w fun e w' => e = .returned (.int .i64 0) ∧ HereTo W w' a anc3 100 := by
  obtain ⟨R, h⟩ := h
  refine (release_any h.disk 2).mono fun e w' ⟨h1, h2⟩ => ?_
  rw [anc_rel] at h1
  rw [if_pos anc_rel, anc_relTo, gc_same anc_clean] at h2
  exact ⟨h1, h.to h2⟩

theorem usedH_any {W w : World} {a : Nat} {d : Nds} {room : Int} (h : HereTo W w a d room) : Calls Try.prog 13 #[.pointer (some ⟨a, 0, none⟩)] w fun e w' => e = .returned (.int .i64 (used d)) ∧ w = w' := by
  obtain ⟨R, h⟩ := h
  obtain ⟨⟨lk, up, hC⟩, _, _, _⟩ := h.disk
  exact used_any hC.rep

theorem anchor4_any (w : World) : Calls Try.prog 8 #[] w fun e w' => e = .returned (.bool true) ∧ Keeps NoB w w' := by
  have hnew := new_ok w 100 (by decide) (by decide)
  go_enter Try.func8, Try.ntmps8
  go_wp2_with (first | (go_at_call 9; refine hnew.mono ?_; rintro e w1 ⟨a, rfl, h1⟩) | (go_at_call 10; refine (anc_c1 h1).mono ?_; rintro e w2 ⟨rfl, h2⟩) | (go_at_call 34; refine (anc_c2 h2).mono ?_; rintro e w3 ⟨rfl, h3⟩) | (go_at_call 19; refine (anc_c3 h3).mono ?_; rintro e w4 ⟨rfl, h4⟩) | (go_at_call 13; refine (usedH_any h4).mono ?_; rw [anc_used]; rintro e w5 ⟨rfl, rfl⟩))
  go_ret
  exact ⟨rfl, newD_nil _ _ _ _ _ h4⟩

end Go.Proofs.Ytbcejodnjeklpaa
