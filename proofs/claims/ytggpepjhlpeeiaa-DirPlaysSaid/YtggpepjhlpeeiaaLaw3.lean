/-
  The walks of the statements of layer 3.
-/
import Derived.Test.YtggpepjhlpeeiaaDirD
import Derived.BigQuiet
import Derived.Deep.QuietTactic
namespace Go.Proofs.Ytggpepjhlpeeiaa
open Go.RowKit

theorem anchor_es : entFrom (putTo (putTo (putTo [] ⟨#[98]⟩ 1) ⟨#[97]⟩ 2) ⟨#[97, 98]⟩ 3) ⟨#[97]⟩ = [(⟨#[97]⟩, 2), (⟨#[97, 98]⟩, 3)] := by decide +kernel

set_option maxHeartbeats 1000000 in
theorem anchor_any (w : World) : Calls Try.prog 6 #[] w fun e w' => e = .returned (.bool true) ∧ Keeps NoB w w' := by
  have Hes := Lib.hid anchor_es
  have l1 := putTo_len [] ⟨#[98]⟩ 1
  have l2 := putTo_len (putTo [] ⟨#[98]⟩ 1) ⟨#[97]⟩ 2
  have l3 := putTo_len (putTo (putTo [] ⟨#[98]⟩ 1) ⟨#[97]⟩ 2) ⟨#[97, 98]⟩ 3
  simp only [List.length_nil] at l1
  have hk0 : Keeps NoB w (w.alloc (.cells #[.slice none 0 0] 26)) := (Keeps.refl _ _).alloc _
  go_enter Try.func6, Try.ntmps6
  go_wp2_with (fail)
  refine (put_d _ _ _ _ _ _ (IsD.new w 26) (by simp)).mono ?_
  rintro e w1 ⟨rfl, ht1⟩
  have hk1 := ht1.keeps hk0 (Or.inr (Nat.le_refl _)) (fun g hg => by cases hg)
  obtain ⟨v1, hd1, _, hf1⟩ := ht1
  go_wp2_with (fail)
  refine (put_d _ _ _ _ _ _ hd1 (by omega)).mono ?_
  rintro e w2 ⟨rfl, ht2⟩
  have hv1 : ∀ g, v1.ownBlock = some g → NoB g ∨ w.heap.size ≤ g := fun g hg => Or.inr (by rcases hf1 g hg with h | h; (cases h); simp at h; omega)
  have hk2 := ht2.keeps hk1 (Or.inr (Nat.le_refl _)) hv1
  have hs1 := hk1.size
  obtain ⟨v2, hd2, _, hf2⟩ := ht2
  go_wp2_with (fail)
  refine (put_d _ _ _ _ _ _ hd2 (by omega)).mono ?_
  rintro e w3 ⟨rfl, ht3⟩
  have hk3 := ht3.keeps hk2 (Or.inr (Nat.le_refl _)) (fun g hg => by
    rcases hf2 g hg with h | h
    · exact hv1 g h
    · exact Or.inr (by omega))
  obtain ⟨v3, hd3, _, _⟩ := ht3
  go_wp2_with (fail)
  refine (from_any _ _ _ _ _ _ hd3 (by omega)).mono ?_
  rintro e w4 ⟨s, rfl, ho, hk4⟩
  rw [Hes.out] at ho
  obtain ⟨g, c, cur, hv, _, hg, _, _, _, _⟩ := ho.row (by simp)
  subst hv
  obtain ⟨_, _, e1, _, _, c0, c1⟩ := ho.at.ent (i := 0) rfl
  cases e1
  obtain ⟨_, _, e1, _, _, d0, d1⟩ := ho.at.ent (i := 1) rfl
  cases e1
  simp only [Nat.zero_mul, Nat.zero_add, Nat.one_mul, Nat.reduceAdd] at c0 c1 d0 d1
  simp only [List.length_cons, List.length_nil, Nat.zero_add, Nat.reduceAdd]
  go_wp2_with (fail)
  go_ret
  exact ⟨rfl, hk3.trans hk4⟩

/-- A call of the statement: its kind, its name, its node. -/
abbrev OpD := Int × ByteArray × Int
def encOp : Enc OpD where
  enc := fun o => [.int .i64 o.1, .string o.2.1, .int .i64 o.2.2]
  k := 3
  pos := by decide
  len := fun _ => rfl
  one := fun x v hv => by simp at hv; rcases hv with rfl | rfl | rfl <;> rfl

theorem SlAt.op {S : Nat → Prop} {w : World} {p : Option Addr} {c : Nat} {l : List OpD} (h : SlAt encOp S w p c l) {i : Nat} {x : OpD} (hi : l[i]? = some x) :
    ∃ g off, p = some ⟨g, off, none⟩ ∧ S g ∧ g < w.heap.size ∧ w.cell? ⟨g, off + i * 3, none⟩ = some (.int .i64 x.1) ∧ w.cell? ⟨g, off + i * 3 + 1, none⟩ = some (.string x.2.1) ∧
      w.cell? ⟨g, off + i * 3 + 2, none⟩ = some (.int .i64 x.2.2) := by
  obtain ⟨g, off, hp, hS, hg, hc⟩ := h.at hi
  exact ⟨g, off, hp, hS, hg, hc 0 _ rfl, (by have := hc 1 _ rfl; rwa [← Nat.add_assoc] at this), by have := hc 2 _ rfl; rwa [← Nat.add_assoc] at this⟩

/-- The entries behind a call. -/
def opTo (es : List Ent) (o : OpD) : List Ent :=
  if o.1 = 1 then putTo es o.2.1 o.2.2 else if o.1 = 2 then entSet es o.2.1 o.2.2 else if o.1 = 3 then entDel es o.2.1 else es

/-- Blocks that are no part of the directory at a (slice v). -/
def Off (a : Addr) (v : Value) : Nat → Prop := fun g => g ≠ a.block ∧ ¬ v.ownBlock = some g

theorem Off.next {w w1 : World} {a : Addr} {v v1 : Value} {es es' : List Ent} (h : IsD w a v es) (hd : IsD w1 a v1 es') (hsz : w.heap.size ≤ w1.heap.size) (hf : ∀ g, v1.ownBlock = some g → v.ownBlock = some g ∨ w.heap.size ≤ g) :
    (∀ g, Off a v g → g < w.heap.size → Off a v1 g) ∧ (∀ g, w1.heap.size ≤ g → Off a v1 g) := by
  have h1 := h.lt
  refine ⟨fun g hg hl => ⟨hg.1, fun e => (hf g e).elim hg.2 (fun h => by omega)⟩, fun g hg => ⟨by omega, fun e => ?_⟩⟩
  have := hd.ownlt g e
  omega

/-- What do leaves. -/
def DoTo (w w' : World) (a : Addr) (v : Value) (es' : List Ent) (s' : Value) : Prop :=
  ∃ v', IsD w' a v' es' ∧ Sl encEnt (Off a v') w' s' es' ∧ Keeps (fun g => g = a.block ∨ v.ownBlock = some g) w w' ∧ (∀ g, v'.ownBlock = some g → v.ownBlock = some g ∨ w.heap.size ≤ g)

set_option maxHeartbeats 2000000 in
set_option maxRecDepth 100000 in
theorem do_any (w : World) (a : Addr) (v : Value) (es : List Ent) (p : Option Addr) (c : Nat) (o : OpD) (h : IsD w a v es) (hs : SlAt encEnt (Off a v) w p c es) (hn : es.length < 4294967295) (hm : o.2.1.size ≤ maxLen) :
    Calls Try.prog 12 #[.pointer (some a), .slice p es.length c, .agg #[.int .i64 o.1, .string o.2.1, .int .i64 o.2.2]] w fun e w' =>
      ∃ s', e = .returned (.tuple #[s', .bool true]) ∧ DoTo w w' a v (opTo es o) s' := by
  obtain ⟨k, nm, nd⟩ := o
  simp only [] at hm ⊢
  have hlt := h.lt
  have hown := h.ownlt
  have h0 : IsD (w.alloc (.cells #[.int .i64 k, .string nm, .int .i64 nd] 41)) a v es := h.keep ((Keeps.refl NoB w).alloc _) (fun h => h) (fun _ _ h => h)
  have hr := h.rising
  by_cases h1 : k = 1
  · subst h1
    have Hop : Hid (opTo es (1, nm, nd) = putTo es nm nd) := rfl
    go_enter Try.func12, Try.ntmps12
    go_wp2_with (fail)
    refine (put_d _ _ _ _ _ _ h0 hn).mono ?_
    rintro e w1 ⟨rfl, ht⟩
    have hk0 := ht.keeps (F := fun g => g = a.block ∨ v.ownBlock = some g) (Keeps.refl _ _) (Or.inl (Or.inl rfl)) (fun g hg => Or.inl (Or.inr hg))
    have hk1 := ht.keeps (F := fun g => g = a.block ∨ v.ownBlock = some g) ((Keeps.refl _ w).alloc _) (Or.inl (Or.inl rfl)) (fun g hg => Or.inl (Or.inr hg))
    have hnF : ¬ (w.heap.size = a.block ∨ v.ownBlock = some w.heap.size) := fun h => h.elim (fun h => by omega) (fun h => absurd (hown _ h) (by omega))
    have c1 : w1.cell? ⟨w.heap.size, 1, none⟩ = some (.string nm) := (hk0.cell (p := ⟨w.heap.size, 1, none⟩) (by simp) hnF).trans (cell_of_row _ _ _ _ _ _ (heap_alloc_new w _))
    have c2 : w1.cell? ⟨w.heap.size, 2, none⟩ = some (.int .i64 nd) := (hk0.cell (p := ⟨w.heap.size, 2, none⟩) (by simp) hnF).trans (cell_of_row _ _ _ _ _ _ (heap_alloc_new w _))
    have hsz := hk1.size
    obtain ⟨v1, hd1, _, hf1⟩ := ht
    have hf1' : ∀ g, v1.ownBlock = some g → v.ownBlock = some g ∨ w.heap.size ≤ g := fun g hg => (hf1 g hg).imp id (fun h => by simp at h; omega)
    obtain ⟨ho1, ho2⟩ := Off.next h hd1 hsz hf1'
    have hs1 := hs.keepS hk1 (fun g hg _ hF => hF.elim hg.1 hg.2) ho1
    have hr3 := r3put_any (Off a v1) w1 p c es nm nd hs1 hr hn ho2 hm
    clear hk0 hnF hf1 hsz
    have Hr3 := Lib.hid hr3
    clear hr3
    go_wp2_with (go_at_call 23; refine Hr3.out.mono ?_; rintro e w2 ⟨s', rfl, hs2, hk2⟩)
    go_ret2
    refine ⟨s', rfl, v1, ?_, ?_, hk1.trans hk2.of_none, hf1'⟩
    · rw [Hop.out]; exact hd1.keep hk2 (fun h => h) (fun _ _ h => h)
    · rw [Hop.out]; exact hs2
  have k1 : (k == 1) = false := by simpa using h1
  clear h1
  by_cases h1 : k = 2
  · subst h1
    have Hop : Hid (opTo es (2, nm, nd) = entSet es nm nd) := rfl
    go_enter Try.func12, Try.ntmps12
    go_wp2_with (fail)
    refine (set_d _ _ _ _ _ _ h0 hn).mono ?_
    rintro e w1 ⟨rfl, ht⟩
    have hk0 := ht.keeps (F := fun g => g = a.block ∨ v.ownBlock = some g) (Keeps.refl _ _) (Or.inl (Or.inl rfl)) (fun g hg => Or.inl (Or.inr hg))
    have hk1 := ht.keeps (F := fun g => g = a.block ∨ v.ownBlock = some g) ((Keeps.refl _ w).alloc _) (Or.inl (Or.inl rfl)) (fun g hg => Or.inl (Or.inr hg))
    have hnF : ¬ (w.heap.size = a.block ∨ v.ownBlock = some w.heap.size) := fun h => h.elim (fun h => by omega) (fun h => absurd (hown _ h) (by omega))
    have c1 : w1.cell? ⟨w.heap.size, 1, none⟩ = some (.string nm) := (hk0.cell (p := ⟨w.heap.size, 1, none⟩) (by simp) hnF).trans (cell_of_row _ _ _ _ _ _ (heap_alloc_new w _))
    have c2 : w1.cell? ⟨w.heap.size, 2, none⟩ = some (.int .i64 nd) := (hk0.cell (p := ⟨w.heap.size, 2, none⟩) (by simp) hnF).trans (cell_of_row _ _ _ _ _ _ (heap_alloc_new w _))
    have hsz := hk1.size
    obtain ⟨v1, hd1, _, hf1⟩ := ht
    have hf1' : ∀ g, v1.ownBlock = some g → v.ownBlock = some g ∨ w.heap.size ≤ g := fun g hg => (hf1 g hg).imp id (fun h => by simp at h; omega)
    obtain ⟨ho1, ho2⟩ := Off.next h hd1 hsz hf1'
    have hs1 := hs.keepS hk1 (fun g hg _ hF => hF.elim hg.1 hg.2) ho1
    have hr3 := r3set_any (Off a v1) w1 p c es nm nd hs1 hr hn ho2
    clear hk0 hnF hf1 hsz
    have Hr3 := Lib.hid hr3
    clear hr3
    go_wp2_with (go_at_call 25; refine Hr3.out.mono ?_; rintro e w2 ⟨s', rfl, hs2, hk2⟩)
    go_ret2
    refine ⟨s', rfl, v1, ?_, ?_, hk1.trans hk2.of_none, hf1'⟩
    · rw [Hop.out]; exact hd1.keep hk2 (fun h => h) (fun _ _ h => h)
    · rw [Hop.out]; exact hs2
  have k2 : (k == 2) = false := by simpa using h1
  clear h1
  by_cases h1 : k = 3
  · subst h1
    have Hop : Hid (opTo es (3, nm, nd) = entDel es nm) := rfl
    go_enter Try.func12, Try.ntmps12
    go_wp2_with (fail)
    refine (drop_d _ _ _ _ _ h0 hn).mono ?_
    rintro e w1 ⟨rfl, ht⟩
    have hk0 := ht.keeps (F := fun g => g = a.block ∨ v.ownBlock = some g) (Keeps.refl _ _) (Or.inl (Or.inl rfl)) (fun g hg => Or.inl (Or.inr hg))
    have hk1 := ht.keeps (F := fun g => g = a.block ∨ v.ownBlock = some g) ((Keeps.refl _ w).alloc _) (Or.inl (Or.inl rfl)) (fun g hg => Or.inl (Or.inr hg))
    have hnF : ¬ (w.heap.size = a.block ∨ v.ownBlock = some w.heap.size) := fun h => h.elim (fun h => by omega) (fun h => absurd (hown _ h) (by omega))
    have c1 : w1.cell? ⟨w.heap.size, 1, none⟩ = some (.string nm) := (hk0.cell (p := ⟨w.heap.size, 1, none⟩) (by simp) hnF).trans (cell_of_row _ _ _ _ _ _ (heap_alloc_new w _))
    have c2 : w1.cell? ⟨w.heap.size, 2, none⟩ = some (.int .i64 nd) := (hk0.cell (p := ⟨w.heap.size, 2, none⟩) (by simp) hnF).trans (cell_of_row _ _ _ _ _ _ (heap_alloc_new w _))
    have hsz := hk1.size
    obtain ⟨v1, hd1, _, hf1⟩ := ht
    have hf1' : ∀ g, v1.ownBlock = some g → v.ownBlock = some g ∨ w.heap.size ≤ g := fun g hg => (hf1 g hg).imp id (fun h => by simp at h; omega)
    obtain ⟨ho1, ho2⟩ := Off.next h hd1 hsz hf1'
    have hs1 := hs.keepS hk1 (fun g hg _ hF => hF.elim hg.1 hg.2) ho1
    have hr3 := r3drop_any (Off a v1) w1 p c es nm hs1 hr hn ho2
    clear hk0 hnF hf1 hsz
    have Hr3 := Lib.hid hr3
    clear hr3
    go_wp2_with (go_at_call 26; refine Hr3.out.mono ?_; rintro e w2 ⟨s', rfl, hs2, hk2⟩)
    go_ret2
    refine ⟨s', rfl, v1, ?_, ?_, hk1.trans hk2.of_none, hf1'⟩
    · rw [Hop.out]; exact hd1.keep hk2 (fun h => h) (fun _ _ h => h)
    · rw [Hop.out]; exact hs2
  have k3 : (k == 3) = false := by simpa using h1
  have Hop : Hid (opTo es (k, nm, nd) = es) := by
    show opTo es (k, nm, nd) = es
    unfold opTo
    rw [if_neg (by simpa using k1), if_neg (by simpa using k2), if_neg h1]
  clear h1
  go_enter Try.func12, Try.ntmps12
  go_wp2_with (fail)
  go_ret2
  have hk : Keeps NoB w (w.alloc (.cells #[.int .i64 k, .string nm, .int .i64 nd] 41)) := (Keeps.refl _ _).alloc _
  refine ⟨_, rfl, v, ?_, ?_, hk.of_none, fun g hg => Or.inl hg⟩
  · rw [Hop.out]; exact h0
  · rw [Hop.out]; exact ⟨p, c, rfl, hs.keepN hk⟩

end Go.Proofs.Ytggpepjhlpeeiaa
