/-
  The statements of layer 5: built.
-/
import Derived.Test.YtbcejodnjeklpaaDoorB21

set_option linter.unusedSimpArgs false
set_option linter.unusedVariables false

set_option maxRecDepth 100000
set_option maxHeartbeats 40000000
namespace Go.Proofs.YtbcejodnjeklpaaDoor
open Go Go.RowKit

theorem tInt : ElemT Tryd.prog encInt 57 3 0 8 :=
  .of (.int .i64 0) Tryd.underlying57 (by kernel_rfl) rfl

/-- A block of two cells that may be written. -/
structure D2 (w : World) (g : Nat) (v0 v1 : Value) : Prop where
  lt : g < w.heap.size
  c0 : w.cell? ⟨g, 0, none⟩ = some v0
  c1 : w.cell? ⟨g, 1, none⟩ = some v1
  fz : ∀ j, w.frozen? ⟨g, j, none⟩ = false
theorem D2.keep {F : Nat → Prop} {w w' : World} {g : Nat} {v0 v1 : Value} (h : D2 w g v0 v1) (k : Keeps F w w') (hF : ¬ F g) : D2 w' g v0 v1 :=
  ⟨Nat.lt_of_lt_of_le h.lt k.size, (k.cell (p := ⟨g, 0, none⟩) h.lt hF).trans h.c0, (k.cell (p := ⟨g, 1, none⟩) h.lt hF).trans h.c1, fun j => (k.frozen (p := ⟨g, j, none⟩) h.lt hF).trans (h.fz j)⟩
theorem d2_new {w w1 : World} {v0 v1 : Value} {T : TypeId} (k : Keeps NoB (w.alloc (.cells #[v0, v1] T)) w1) : D2 w1 w.heap.size v0 v1 :=
  ⟨Nat.lt_of_lt_of_le (by simp) k.size, boxed k 0 _ rfl, boxed k 1 _ rfl, boxedz k⟩
theorem D2.set {w : World} {g : Nat} {v0 v1 : Value} (h : D2 w g v0 v1) (u0 u1 : Value) : D2 ((w.setCell ⟨g, 0, none⟩ u0).setCell ⟨g, 1, none⟩ u1) g u0 u1 := by
  have a0 := cell_set (g := g) (k := 0) (u := u0) (j := 0) h.c0
  have a1 := cell_set (g := g) (k := 0) (u := u0) (j := 1) h.c1
  rw [if_pos rfl] at a0
  rw [if_neg (by decide)] at a1
  have b0 := cell_set (g := g) (k := 1) (u := u1) (j := 0) a0
  have b1 := cell_set (g := g) (k := 1) (u := u1) (j := 1) a1
  rw [if_neg (by decide)] at b0
  rw [if_pos rfl] at b1
  exact ⟨Nat.lt_of_lt_of_le h.lt (Nat.le_trans (keeps_set _ _ _).size (keeps_set _ _ _).size), b0, b1, fun j => (frozen_set _ _ _ _).trans ((frozen_set _ _ _ _).trans (h.fz j))⟩
theorem keeps_two (w' : World) (b : Nat) (v0 v1 : Value) : Keeps (fun x => x = b) w' ((w'.setCell ⟨b, 0, none⟩ v0).setCell ⟨b, 1, none⟩ v1) :=
  Keeps.setCell (F := fun x => x = b) (Keeps.setCell (F := fun x => x = b) (Keeps.refl _ w') (p := ⟨b, 0, none⟩) (Or.inl rfl) _) (p := ⟨b, 1, none⟩) (Or.inl rfl) _

theorem C5.keep {F : Nat → Prop} {w w' : World} {g : Nat} {v0 v1 v2 v3 v4 : Value} (h : C5 w g v0 v1 v2 v3 v4) (k : Keeps F w w') (hF : ¬ F g) : C5 w' g v0 v1 v2 v3 v4 :=
  ⟨Nat.lt_of_lt_of_le h.lt k.size, (k.cell (p := ⟨g, 0, none⟩) h.lt hF).trans h.c0, (k.cell (p := ⟨g, 1, none⟩) h.lt hF).trans h.c1, (k.cell (p := ⟨g, 2, none⟩) h.lt hF).trans h.c2, (k.cell (p := ⟨g, 3, none⟩) h.lt hF).trans h.c3, (k.cell (p := ⟨g, 4, none⟩) h.lt hF).trans h.c4⟩

/-- The blocks that are neither disk's. -/
def BN (W : World) (X : Nat) (v : Value) : Nat → Prop := fun g => g ≤ W.heap.size ∨ g = X ∨ v.ownBlock = some g

/-- Between the calls: the reference's disk in X; N are the blocks that are neither disk's. -/
structure Blc (N : Nat → Prop) (W w : World) (X a : Nat) (p : Option Addr) (c : Nat) (v : Value) (dp dr : Nds) (px : Option Addr) (nx cx : Nat) (l : List Int) : Prop where
  pair : Pair N w a dp p c dr room5
  sub : ∀ g, BN W X v g → N g
  x : D2 w X (.slice px nx cx) (.int .i64 room5)
  r : D2 w W.heap.size (.slice none 0 0) (.int .i64 0)
  o : Own encInt 3 (fun g => W.heap.size < g ∧ g ≠ X) w v l
  new : W.heap.size < X
  keeps : Keeps NoB W w

section
variable {N : Nat → Prop} {W w w' : World} {X a : Nat} {p px : Option Addr} {c nx cx : Nat} {v : Value} {dp dr : Nds} {l : List Int}

/-- Where only blocks outside N turn, all stays; the disks by themselves. -/
theorem Blc.turn {F : Nat → Prop} {dp' dr' : Nds} {p' : Option Addr} {c' : Nat} (h : Blc N W w X a p c v dp dr px nx cx l) (hp : Pair N w' a dp' p' c' dr' room5) (k : Keeps F w w') (hF : ∀ g, BN W X v g → ¬ F g) : Blc N W w' X a p' c' v dp' dr' px nx cx l :=
  ⟨hp, h.sub, h.x.keep k (hF _ (.inr (.inl rfl))), h.r.keep k (hF _ (.inl (Nat.le_refl _))), h.o.keep k (fun g hg => hF _ (.inr (.inr hg))), h.new,
   h.keeps.step k (fun g hg => .inr (Nat.le_of_not_lt fun hl => hF _ (.inl (Nat.le_of_lt hl)) hg))⟩
theorem Blc.on (h : Blc N W w X a p c v dp dr px nx cx l) (k : Keeps NoB w w') : Blc N W w' X a p c v dp dr px nx cx l := h.turn (h.pair.on k) k (fun _ _ h => h)
/-- A new block that is neither disk's. -/
theorem Blc.more (h : Blc N W w X a p c v dp dr px nx cx l) (k : Keeps NoB w w') (b : Nat) (h1 : w.heap.size ≤ b) (h2 : b < w'.heap.size) : Blc (fun g => N g ∨ g = b) W w' X a p c v dp dr px nx cx l :=
  have h' := h.on k
  ⟨h.pair.grow k (fun x hx => hx.elim .inl (fun e => .inr (by omega))), fun g hg => .inl (h.sub g hg), h'.x, h'.r, h'.o, h.new, h'.keeps⟩
theorem Blc.less (h : Blc N W w X a p c v dp dr px nx cx l) : Blc (BN W X v) W w X a p c v dp dr px nx cx l :=
  ⟨h.pair.less h.sub, fun _ hg => hg, h.x, h.r, h.o, h.new, h.keeps⟩
/-- The reference's disk is laid into its variable. -/
theorem Blc.lay (h : Blc N W w X a p c v dp dr px nx cx l) : Blc N W ((w.setCell ⟨X, 0, none⟩ (.slice p dr.length c)).setCell ⟨X, 1, none⟩ (.int .i64 room5)) X a p c v dp dr p dr.length c l :=
  have k := keeps_two w X (.slice p dr.length c) (.int .i64 room5)
  ⟨h.pair.keep k (fun g _ hg => h.sub g (.inr (.inl hg))), h.sub, h.x.set _ _, h.r.keep k (fun e => by have := h.new; omega), h.o.keep k (fun g hg e => (h.o.2 g hg).2 e), h.new, h.keeps.step k (fun g hg => .inr (by have := h.new; omega))⟩

theorem Blc.start {w3 w4 : World} (hx : D2 w3 X (.slice p newD.length c) (.int .i64 1048576)) (hr0 : D2 w3 W.heap.size (.slice none 0 0) (.int .i64 0)) (hr : RefAt (fun g => W.heap.size < g ∧ g < X) w3 p c newD) (k3 : Keeps NoB W w3) (hn : W.heap.size < X) {a : Nat} (h4 : HereTo w3 w4 a newD 1048576) :
    Blc (BN W X (.slice (some ⟨w4.heap.size, 0, none⟩) 1 1)) W (w4.alloc (.cells #[.int .i64 1] 3)) X a p c (.slice (some ⟨w4.heap.size, 0, none⟩) 1 1) newD newD p newD.length c [1] := by
  obtain ⟨R, hd, hk, ht⟩ := h4
  have kA : Keeps NoB w4 (w4.alloc (.cells #[.int .i64 1] 3)) := (Keeps.refl _ _).alloc _
  have s3 := hk.size
  have hxl := hx.lt
  have hv : ∀ g, (Value.slice (some ⟨w4.heap.size, 0, none⟩) 1 1).ownBlock = some g → g = w4.heap.size := fun g hg => (Option.some.inj hg).symm
  have ho : Own encInt 3 (fun g => W.heap.size < g ∧ g ≠ X) (w4.alloc (.cells #[.int .i64 1] 3)) (.slice (some ⟨w4.heap.size, 0, none⟩) 1 1) [1] := own_lit [1] #[.int .i64 1] rfl 1 rfl ⟨by omega, by omega⟩ (by decide)
  refine ⟨⟨fun g hg => ?_, R, hd.keepN kA, fun g hg => ?_, hr.keepS (hk.trans kA) (fun _ _ _ h => h) (fun g hg hl => ⟨ht g hl, fun hb => ?_⟩)⟩, fun g hg => hg, hx.keep (hk.trans kA) (fun h => h), hr0.keep (hk.trans kA) (fun h => h), ho, hn, k3.trans (hk.trans kA)⟩
  · rcases hg with h | h | h
    · simp; omega
    · simp; omega
    · have := hv g h; simp; omega
  · rcases hg with h | h | h
    · exact ht g (by omega)
    · exact ht g (by omega)
    · rw [hv g h]; exact hd.tagTop _ (Nat.le_refl _)
  · rcases hb with h | h | h
    · have := hg.1; omega
    · have := hg.2; omega
    · have := hv g h; have := hg.2; omega

/-- Pair over new blocks too, where only N's turn. -/
theorem Pair.growF {F N' : Nat → Prop} {room : Int} {a : Nat} (h : Pair N w a dp p c dr room) (k : Keeps F w w') (hF : ∀ x, x < w.heap.size → F x → N x) (hN : ∀ x, N' x → N x ∨ (w.heap.size ≤ x ∧ x < w'.heap.size)) : Pair N' w' a dp p c dr room := by
  obtain ⟨R, h1, h2, h3⟩ := h.both
  have hs := k.size
  refine ⟨fun x hx => ?_, R, h1.keep k (fun x hl hx => h2 x (hF x hl hx)), fun x hx => ?_, h3.keepS k (fun g hg hl hx => hg.2 (hF g hl hx)) (fun g hg hl => ⟨hg.1, fun hx => ?_⟩)⟩
  · rcases hN x hx with h4 | h4
    · exact Nat.lt_of_lt_of_le (h.low x h4) hs
    · exact h4.2
  · rcases hN x hx with h4 | h4
    · exact h2 x h4
    · exact h1.tagTop x h4.1
  · rcases hN g hx with h4 | h4
    · exact hg.2 h4
    · omega

/-- The row of directories has grown. -/
theorem Blc.app {v' : Value} {l' : List Int} (h : Blc N W w X a p c v dp dr px nx cx l) (k : Keeps (fun g => v.ownBlock = some g) w w') (ho : Own encInt 3 (fun g => W.heap.size < g ∧ g ≠ X) w' v' l') (hv : ∀ g, v'.ownBlock = some g → v.ownBlock = some g ∨ w.heap.size ≤ g) :
    Blc (BN W X v') W w' X a p c v' dp dr px nx cx l' := by
  have hO := h.o.2
  refine ⟨h.pair.growF k (fun x _ hx => h.sub x (.inr (.inr hx))) (fun x hx => ?_), fun _ hg => hg, h.x.keep k (fun e => (hO X e).2 rfl), h.r.keep k (fun e => by have := (hO _ e).1; omega), ho, h.new, h.keeps.step k (fun g hg => .inr (by have := (hO g hg).1; omega))⟩
  rcases hx with h1 | h1 | h1
  · exact .inl (h.sub x (.inl h1))
  · exact .inl (h.sub x (.inr (.inl h1)))
  · rcases hv x h1 with h2 | h2
    · exact .inl (h.sub x (.inr (.inr h2)))
    · exact .inr ⟨h2, ho.lt x h1⟩

theorem results_tmp_cell_tmp {fn : Func} {u p t : Tmp} {ty : TypeId} (h : fn.results = #[.tmp u, .cell p ty, .tmp t]) (tmps : Array Value) (P : Program) (w : World) :
    (results fn tmps).run P w =
      ((asAddr (tmps.getD p undef)).run P w).andThen fun a w₁ => ((loadVar ty a).run P w₁).andThen fun v w₂ => .ok (.tuple #[tmps.getD u undef, v, tmps.getD t undef]) w₂ := by
  simp only [results, h]
  simp [Sem.run_bind, Result.andThen]


/-- What built answers. -/
def BuiltTo (W : World) (l : List N5) (e : Ending) (w : World) : Prop :=
  ∃ (a : Nat) (p : Option Addr) (c : Nat), e = .returned (.tuple #[.pointer (some ⟨a, 0, none⟩), refV p c (builtD l).1 room5, .bool true]) ∧ Pair (fun g => g < W.heap.size) w a (builtD l).1 p c (builtD l).1 room5 ∧ Bt (builtD l) l.length ∧ Keeps NoB W w

def BuiltEnd (W : World) (a : Nat) (p : Option Addr) (c : Nat) (s : Nds × List Int) (w : World) : Prop := Pair (fun g => g < W.heap.size) w a s.1 p c s.1 room5 ∧ Keeps NoB W w

/-- What built takes here: short nodes, at most 64. -/
def Built5 (l : List N5) : Prop := (∀ o ∈ l, SmallN o) ∧ l.length ≤ 64
theorem Small5.b {l : List N5} (h : Small5 l) : Built5 l := ⟨h.1, by have := h.2; omega⟩

theorem built_any {S : Nat → Prop} {pl : Option Addr} {cl : Nat} {ls : List N5} (h : SlAt encN5 S W pl cl ls) (hsm : Built5 ls) :
    Calls Tryd.prog 9 #[.slice pl ls.length cl] W (BuiltTo W ls) := by
  have hcap := h.cap
  have hmax := h.max
  unfold maxLen at hmax
  have h40 := hsm.2
  have HS := Lib.hid hsm.1
  have k1 : Keeps NoB W (W.alloc (.cells #[.slice none 0 0, .int .i64 0] 28)) := (Keeps.refl _ _).alloc _
  have e1 : (W.alloc (.cells #[.slice none 0 0, .int .i64 0] 28)).heap.size = W.heap.size + 1 := by simp
  have HN := Lib.hid (fun wx : World => new_ok wx 1048576 (by decide) (by decide))
  go_enter Tryd.func9, Tryd.ntmps9
  go_upto_region 2 with (first | (go_at_call 17; go_loud (refine (r4new_any (S := fun g => W.heap.size < g) _ 1048576 (fun g hg => by omega)).mono ?_); rintro e w2 ⟨p2, c2, rfl, hr2, hk2⟩; unfold refV))
  have kx : Keeps NoB w2 (w2.alloc (.cells #[.slice p2 newD.length c2, .int .i64 1048576] 28)) := (Keeps.refl _ _).alloc _
  have DR := (d2_new hk2).keep kx (fun h => h)
  have DX := d2_new (Keeps.refl NoB (w2.alloc (.cells #[.slice p2 newD.length c2, .int .i64 1048576] 28)))
  have hr3 := hr2.keepS (S' := fun g => W.heap.size < g ∧ g < w2.heap.size) kx (fun _ _ _ h => h) (fun g hg hl => ⟨hg, hl⟩)
  have hWX : W.heap.size < w2.heap.size := by have := hk2.size; omega
  have k3 := (k1.trans hk2).trans kx
  generalize w2.alloc (.cells #[.slice p2 newD.length c2, .int .i64 1048576] 28) = w3 at *
  have hXl := DX.lt
  generalize w2.heap.size = X at *
  clear hr2 hk2 kx
  go_upto_region 5 with (first | (go_at_call 18; go_loud (refine (HN.out _).mono ?_); rintro e w4 ⟨a, rfl, h4⟩))
  have hB := Blc.start DX DR hr3 k3 hWX h4
  clear DX DR hr3 k3 h4 HN k1 e1 hXl
  go_upto_region 6 with fail
  generalize w4.alloc (.cells #[.int .i64 1] 3) = w5 at *
  generalize Value.slice (some ⟨w4.heap.size, 0, none⟩) 1 1 = v0 at *
  go_wp2_with fail
  go_loopw [8, 32] (fun v8 i wr => ∃ (k : Nat) (p c : _), i = .int .i64 k ∧ k ≤ ls.length ∧ Blc (BN W X v8) W wr X a p c v8 (builtD (ls.take k)).1 (builtD (ls.take k)).1 p (builtD (ls.take k)).1.length c (builtD (ls.take k)).2 ∧ Bt (builtD (ls.take k)) k) (fun _ i _ => ls.length - (intOf i).toNat)
  case atStart => exact ⟨0, _, _, rfl, Nat.zero_le _, hB, bt_new⟩
  case round =>
    rename_i wr
    obtain ⟨k, p, c, rfl, hk, hC, hT⟩ := hrel
    by_cases hlt : k < ls.length
    · obtain ⟨o, hx⟩ : ∃ o, ls[k]? = some o := ⟨_, List.getElem?_eq_getElem hlt⟩
      obtain ⟨hs1, hs2⟩ := HS.out o (List.mem_of_getElem? hx)
      obtain ⟨gb, off, rfl, hS', hg, c0, c1, c2, c3, c4⟩ := (h.keepN hC.keeps).n5 hx
      have hnext : builtD (ls.take (k + 1)) = bOne (builtD (ls.take k)) o := by unfold builtD; rw [List.take_add_one, hx]; simp [List.foldl_append]
      obtain ⟨s, hs⟩ : ∃ s, builtD (ls.take k) = s := ⟨_, rfl⟩
      rw [hs] at hC hT hnext
      have hT' := bt_one hT hC.pair.inv o
      rw [← hnext] at hT'
      obtain ⟨d, dl⟩ := s
      simp only at hC
      have hms := hT.mass
      simp only at hms
      have CC := hC
      replace hnext := Lib.hid hnext
      replace hT := Lib.hid hT
      replace hT' := Lib.hid hT'
      clear hC hs hx
      have X0 := CC.x.c0; have X1 := CC.x.c1; have XF := CC.x.fz; have XL := CC.x.lt; have R0 := CC.r.c0; have R1 := CC.r.c1; have RF := CC.r.fz; have RL := CC.r.lt
      go_upto_region 9 with fail
      have kn : Keeps NoB wr (wr.alloc (.cells #[.int .i64 o.at', .string o.name, .int .i64 o.kind, .int .i64 o.mode, .string o.data] 42)) := (Keeps.refl _ _).alloc _
      have NN := c5_new (Keeps.refl NoB (wr.alloc (.cells #[.int .i64 o.at', .string o.name, .int .i64 o.kind, .int .i64 o.mode, .string o.data] 42)))
      have C1 := CC.more kn wr.heap.size (Nat.le_refl _) (by simp)
      have hXB : X < wr.heap.size := CC.x.lt
      clear X0 X1 XF XL R0 R1 RF RL
      clear CC kn c0 c1 c2 c3 c4 hg
      generalize wr.alloc (.cells #[.int .i64 o.at', .string o.name, .int .i64 o.kind, .int .i64 o.mode, .string o.data] 42) = w1 at *
      generalize wr.heap.size = B at *
      have CC := C1
      clear C1
      have HM := p_make CC.pair o.kind o.mode o.data (by omega) (by omega)
      have HQ := fun (w2 : World) (h2 : Pair (fun g => BN W X u8 g ∨ g = B) w2 a (makeTo d room5 o.kind o.mode o.data) p c d room5) => q_make h2 CC.pair.inv CC.pair.small o.kind o.mode o.data (by omega)
      unfold PTo at HM
      unfold QTo at HQ
      obtain ⟨er, her⟩ : ∃ er, makeErr d room5 o.kind o.mode o.data = er := ⟨_, rfl⟩
      obtain ⟨id, hid⟩ : ∃ id, makeId d room5 o.kind o.mode o.data = id := ⟨_, rfl⟩
      obtain ⟨d1, hd1⟩ : ∃ d1, makeTo d room5 o.kind o.mode o.data = d1 := ⟨_, rfl⟩
      rw [her, hid, hd1] at HM
      simp only [her, hid, hd1] at HQ
      replace HM := Lib.hid HM
      replace HQ := Lib.hid HQ
      replace her := Lib.hid her
      replace hid := Lib.hid hid
      replace hd1 := Lib.hid hd1
      unfold refV at HQ
      have X0 := CC.x.c0; have X1 := CC.x.c1; have XF := CC.x.fz; have XL := CC.x.lt; have R0 := CC.r.c0; have R1 := CC.r.c1; have RF := CC.r.fz; have RL := CC.r.lt
      have n0 := NN.c0; have n1 := NN.c1; have n2 := NN.c2; have n3 := NN.c3; have n4 := NN.c4; have nl := NN.lt
      go_upto_region 11 with (first | (go_at_call 19; go_loud (refine HM.out.mono ?_); rintro e w2 ⟨rfl, hp2, hk2⟩; have C2' := CC.turn hp2 hk2 (fun g hg h => h (CC.sub g hg)); have N2 := NN.keep hk2 (fun h => h (.inr rfl)); clear X0 X1 XF XL R0 R1 RF RL; clear n0 n1 n2 n3 n4 nl; clear CC NN hk2 hp2; have CC := C2'; have NN := N2; clear C2' N2; have X0 := CC.x.c0; have X1 := CC.x.c1; have XF := CC.x.fz; have XL := CC.x.lt; have R0 := CC.r.c0; have R1 := CC.r.c1; have RF := CC.r.fz; have RL := CC.r.lt; have n0 := NN.c0; have n1 := NN.c1; have n2 := NN.c2; have n3 := NN.c3; have n4 := NN.c4; have nl := NN.lt) | (go_at_call 20; go_loud (refine (HQ.out _ CC.pair).mono ?_); rintro e w3 ⟨p3, c3, rfl, hp3, hk3⟩; have C2' := CC.turn hp3 hk3 (fun _ _ h => h); have N2 := NN.on hk3; clear X0 X1 XF XL R0 R1 RF RL; clear n0 n1 n2 n3 n4 nl; clear CC NN hk3 hp3; have CC := C2'; have NN := N2; clear C2' N2; have X0 := CC.x.c0; have X1 := CC.x.c1; have XF := CC.x.fz; have XL := CC.x.lt; have R0 := CC.r.c0; have R1 := CC.r.c1; have RF := CC.r.fz; have RL := CC.r.lt; have n0 := NN.c0; have n1 := NN.c1; have n2 := NN.c2; have n3 := NN.c3; have n4 := NN.c4; have nl := NN.lt))
      have ky : Keeps NoB w3 (w3.alloc (.cells #[.slice p3 d1.length c3, .int .i64 room5] 28)) := (Keeps.refl _ _).alloc _
      have YY := d2_new (Keeps.refl NoB (w3.alloc (.cells #[.slice p3 d1.length c3, .int .i64 room5] 28)))
      have C1 := CC.more ky w3.heap.size (Nat.le_refl _) (by simp)
      have N1 := NN.on ky
      have hXY : X < w3.heap.size := CC.x.lt
      have hBY : B < w3.heap.size := NN.lt
      have hOY : ∀ g, u8.ownBlock = some g → g < w3.heap.size := CC.o.lt
      clear X0 X1 XF XL R0 R1 RF RL
      clear n0 n1 n2 n3 n4 nl
      clear CC NN HM HQ
      generalize w3.alloc (.cells #[.slice p3 d1.length c3, .int .i64 room5] 28) = w4 at *
      generalize w3.heap.size = Y at *
      have CC := C1
      have NN := N1
      clear C1 N1
      have X0 := CC.x.c0; have X1 := CC.x.c1; have XF := CC.x.fz; have XL := CC.x.lt; have R0 := CC.r.c0; have R1 := CC.r.c1; have RF := CC.r.fz; have RL := CC.r.lt
      have n0 := NN.c0; have n1 := NN.c1; have n2 := NN.c2; have n3 := NN.c3; have n4 := NN.c4; have nl := NN.lt
      have y0 := YY.c0; have y1 := YY.c1; have yf := YY.fz; have yl := YY.lt
      go_upto_region 14 with fail
      have C1 := CC.lay
      have N1 := NN.keep (keeps_two w4 X (.slice p3 d1.length c3) (.int .i64 room5)) (by omega)
      have Y1 := YY.keep (keeps_two w4 X (.slice p3 d1.length c3) (.int .i64 room5)) (by omega)
      clear X0 X1 XF XL R0 R1 RF RL
      clear n0 n1 n2 n3 n4 nl
      clear y0 y1 yf yl
      clear CC NN YY ky
      generalize (w4.setCell ⟨X, 0, none⟩ (.slice p3 d1.length c3)).setCell ⟨X, 1, none⟩ (.int .i64 room5) = w5 at *
      have CC := C1
      have NN := N1
      have YY := Y1
      clear C1 N1 Y1
      have X0 := CC.x.c0; have X1 := CC.x.c1; have XF := CC.x.fz; have XL := CC.x.lt; have R0 := CC.r.c0; have R1 := CC.r.c1; have RF := CC.r.fz; have RL := CC.r.lt
      have n0 := NN.c0; have n1 := NN.c1; have n2 := NN.c2; have n3 := NN.c3; have n4 := NN.c4; have nl := NN.lt
      have y0 := YY.c0; have y1 := YY.c1; have yf := YY.fz; have yl := YY.lt
      by_cases he : er ≠ 0
      · have hb : (er != 0) = true := by simpa using he
        have h1 : d1 = d := by rw [← hd1.out]; unfold makeTo; rw [if_neg (by rw [her.out]; exact he)]
        have h2 : builtD (ls.take (k + 1)) = (d, dl) := by rw [hnext.out]; unfold bOne; rw [if_pos (by simp only; rw [her.out]; exact he)]
        subst h1
        go_wp2_with fail
        go_roundw
        case rel =>
          refine ⟨k + 1, p3, c3, by go_num, by omega, ?_, hT'.out⟩
          rw [h2]
          exact CC.less
        case measure => simp [intOf]; omega
      have he0 : er = 0 := Classical.not_not.1 he
      subst he0
      clear he
      have hid2 : id = d.length := by rw [← hid.out]; unfold makeId; rw [if_pos her.out]
      have hd2 : d1 = d ++ [newNd o.kind o.mode o.data] := by rw [← hd1.out]; unfold makeTo; rw [if_pos her.out]
      obtain ⟨pd, cd, rfl, hsd⟩ := CC.o.sl
      have hdl : 1 ≤ dl.length := List.length_pos_iff.2 hT.out.some
      have hdl2 : dl.length ≤ 65 := by have := hT.out.llen; simp only at this; omega
      obtain ⟨at1, hat1⟩ : ∃ at1, bAt dl o.at' = at1 := ⟨_, rfl⟩
      have hj : (o.at' % 18446744073709551616).toNat % dl.length < dl.length := Nat.mod_lt _ hdl
      have hjx : dl[(o.at' % 18446744073709551616).toNat % dl.length]? = some at1 := by
        rw [← hat1]; unfold bAt; rw [List.getElem?_eq_getElem hj]; rfl
      obtain ⟨gd, offd, rfl, hSd, hgd, cdd⟩ := hsd.num hjx
      obtain ⟨j, hjj⟩ : ∃ j, (o.at' % 18446744073709551616).toNat % dl.length = j := ⟨_, rfl⟩
      rw [hjj] at hj hjx cdd
      replace hat1 := Lib.hid hat1
      replace hjx := Lib.hid hjx
      have hix : wrap64 ((IntKind.u64.wrap o.at').tmod (dl.length : Int)) = (j : Int) := by
        have hu : IntKind.u64.wrap o.at' = o.at' % 18446744073709551616 := rfl
        rw [hu, Int.tmod_eq_emod_of_nonneg (by omega), ← hjj]
        have h9 : ((o.at' % 18446744073709551616).toNat % dl.length : Nat) = ((o.at' % 18446744073709551616) % (dl.length : Int)) := by
          rw [Int.natCast_emod, Int.toNat_of_nonneg (by omega)]
        rw [h9]
        have h8 := Int.emod_lt_of_pos (o.at' % 18446744073709551616) (show (0 : Int) < (dl.length : Int) by omega)
        have h7 := Int.emod_nonneg (o.at' % 18446744073709551616) (show (dl.length : Int) ≠ 0 by omega)
        unfold wrap64
        omega
      subst hid2
      have hlo : at1 ≠ d.length := by
        have hm := bAt_mem hT.out.some o.at'
        simp only at hm
        rw [hat1.out] at hm
        have := (hT.out.dirs at1 hm).2
        simp only at this
        omega
      have hm1 : mass d1 ≤ 220 + 2 := by rw [hd2, mass_append]; have : mass1 (newNd o.kind o.mode o.data) = 2 := rfl; omega
      have HE := p_enter CC.pair at1 o.name d.length (by omega) (by omega) (fun _ _ => by rw [hd2]; exact fresh_above rfl hlo)
      have HF := fun (w2 : World) (h2 : Pair (fun g => (BN W X (.slice (some ⟨gd, offd, none⟩) dl.length cd) g ∨ g = B) ∨ g = Y) w2 a (enterD d1 room5 at1 o.name d.length) p3 c3 d1 room5) => q_enter h2 CC.pair.inv CC.pair.small at1 o.name d.length (by unfold maxLen; omega)
      unfold PTo at HE
      unfold QTo at HF
      obtain ⟨er, her2⟩ : ∃ er, enterErr d1 room5 at1 o.name d.length = er := ⟨_, rfl⟩
      obtain ⟨d2, hd2'⟩ : ∃ d2, enterD d1 room5 at1 o.name d.length = d2 := ⟨_, rfl⟩
      rw [her2, hd2'] at HE
      simp only [her2, hd2'] at HF
      have hm2 : mass d2 ≤ 223 := by rw [← hd2']; have := enterD_mass (d := d1) (room := room5) (i := at1) (k := d.length) (name := o.name); omega
      replace HE := Lib.hid HE
      replace HF := Lib.hid HF
      replace her2 := Lib.hid her2
      replace hd2' := Lib.hid hd2'
      replace hd2 := Lib.hid hd2
      unfold refV at HF
      go_upto_region 18 with (first | (go_at_call 21; go_loud (refine HE.out.mono ?_); rintro e w6 ⟨rfl, hp6, hk6⟩; have C2' := CC.turn hp6 hk6 (fun g hg h => h (CC.sub g hg)); have N2 := NN.keep hk6 (fun h => h (.inl (.inr rfl))); have Y2 := YY.keep hk6 (fun h => h (.inr rfl)); clear X0 X1 XF XL R0 R1 RF RL; clear n0 n1 n2 n3 n4 nl; clear y0 y1 yf yl; clear CC NN YY hk6 hp6; have CC := C2'; have NN := N2; have YY := Y2; clear C2' N2 Y2; have X0 := CC.x.c0; have X1 := CC.x.c1; have XF := CC.x.fz; have XL := CC.x.lt; have R0 := CC.r.c0; have R1 := CC.r.c1; have RF := CC.r.fz; have RL := CC.r.lt; have n0 := NN.c0; have n1 := NN.c1; have n2 := NN.c2; have n3 := NN.c3; have n4 := NN.c4; have nl := NN.lt; have y0 := YY.c0; have y1 := YY.c1; have yf := YY.fz; have yl := YY.lt) | (go_at_call 22; go_loud (refine (HF.out _ CC.pair).mono ?_); rintro e w7 ⟨p4, c4, rfl, hp7, hk7⟩; have C2' := CC.turn hp7 hk7 (fun _ _ h => h); have N2 := NN.on hk7; have Y2 := YY.keep hk7 (fun h => h); clear X0 X1 XF XL R0 R1 RF RL; clear n0 n1 n2 n3 n4 nl; clear y0 y1 yf yl; clear CC NN YY hk7 hp7; have CC := C2'; have NN := N2; have YY := Y2; clear C2' N2 Y2; have X0 := CC.x.c0; have X1 := CC.x.c1; have XF := CC.x.fz; have XL := CC.x.lt; have R0 := CC.r.c0; have R1 := CC.r.c1; have RF := CC.r.fz; have RL := CC.r.lt; have n0 := NN.c0; have n1 := NN.c1; have n2 := NN.c2; have n3 := NN.c3; have n4 := NN.c4; have nl := NN.lt; have y0 := YY.c0; have y1 := YY.c1; have yf := YY.fz; have yl := YY.lt))
      have hYb : ∀ g, BN W X (.slice (some ⟨gd, offd, none⟩) dl.length cd) g → ¬ g = Y := fun g hg e => by
        rcases hg with h | h | h
        · omega
        · omega
        · have := hOY g h; omega
      have C1 := CC.turn (CC.pair.keep (keeps_two w7 Y (.slice p4 d2.length c4) (.int .i64 room5)) (fun g _ hg => .inr hg)) (keeps_two w7 Y (.slice p4 d2.length c4) (.int .i64 room5)) hYb
      have N1 := NN.keep (keeps_two w7 Y (.slice p4 d2.length c4) (.int .i64 room5)) (by omega)
      have Y1 := YY.set (.slice p4 d2.length c4) (.int .i64 room5)
      clear X0 X1 XF XL R0 R1 RF RL
      clear n0 n1 n2 n3 n4 nl
      clear y0 y1 yf yl
      clear CC NN YY HE HF
      generalize (w7.setCell ⟨Y, 0, none⟩ (.slice p4 d2.length c4)).setCell ⟨Y, 1, none⟩ (.int .i64 room5) = w8 at *
      have CC := C1
      have NN := N1
      have YY := Y1
      clear C1 N1 Y1
      have X0 := CC.x.c0; have X1 := CC.x.c1; have XF := CC.x.fz; have XL := CC.x.lt; have R0 := CC.r.c0; have R1 := CC.r.c1; have RF := CC.r.fz; have RL := CC.r.lt
      have n0 := NN.c0; have n1 := NN.c1; have n2 := NN.c2; have n3 := NN.c3; have n4 := NN.c4; have nl := NN.lt
      have y0 := YY.c0; have y1 := YY.c1; have yf := YY.fz; have yl := YY.lt
      go_upto_region 21 with fail
      have C1 := CC.lay
      have N1 := NN.keep (keeps_two w8 X (.slice p4 d2.length c4) (.int .i64 room5)) (by omega)
      clear X0 X1 XF XL R0 R1 RF RL
      clear n0 n1 n2 n3 n4 nl
      clear y0 y1 yf yl
      clear CC NN YY
      generalize (w8.setCell ⟨X, 0, none⟩ (.slice p4 d2.length c4)).setCell ⟨X, 1, none⟩ (.int .i64 room5) = w9 at *
      have CC := C1
      have NN := N1
      clear C1 N1
      have h2 : builtD (ls.take (k + 1)) = (relD d2 d.length, if er = 0 ∧ o.kind = 2 then dl ++ [(d.length : Int)] else dl) := by
        rw [hnext.out]
        unfold bOne
        simp only
        rw [if_neg (by rw [her.out]; simp), hat1.out, ← hd2.out, hd2'.out, her2.out]
      have HG := p_rel CC.pair d.length
      have HH := fun (w2 : World) (h2 : Pair (fun g => (BN W X (.slice (some ⟨gd, offd, none⟩) dl.length cd) g ∨ g = B) ∨ g = Y) w2 a (relD d2 d.length) p4 c4 d2 room5) => q_rel h2 CC.pair.inv CC.pair.clean (by omega) d.length
      unfold PTo at HG
      unfold QTo at HH
      obtain ⟨d3, hd3⟩ : ∃ d3, relD d2 d.length = d3 := ⟨_, rfl⟩
      rw [hd3] at HG h2
      simp only [hd3] at HH
      generalize relErr d2 d.length = rr at *
      replace HG := Lib.hid HG
      replace HH := Lib.hid HH
      replace h2 := Lib.hid h2
      clear hd3
      unfold refV at HH
      have X0 := CC.x.c0; have X1 := CC.x.c1; have XF := CC.x.fz; have XL := CC.x.lt; have R0 := CC.r.c0; have R1 := CC.r.c1; have RF := CC.r.fz; have RL := CC.r.lt
      have n0 := NN.c0; have n1 := NN.c1; have n2 := NN.c2; have n3 := NN.c3; have n4 := NN.c4; have nl := NN.lt
      go_upto_region 23 with (first | (go_at_call 23; go_loud (refine HG.out.mono ?_); rintro e w10 ⟨rfl, hp6, hk6⟩; have C2' := CC.turn hp6 hk6 (fun g hg h => h (CC.sub g hg)); have N2 := NN.keep hk6 (fun h => h (.inl (.inr rfl))); clear X0 X1 XF XL R0 R1 RF RL; clear n0 n1 n2 n3 n4 nl; clear CC NN hk6 hp6; have CC := C2'; have NN := N2; clear C2' N2; have X0 := CC.x.c0; have X1 := CC.x.c1; have XF := CC.x.fz; have XL := CC.x.lt; have R0 := CC.r.c0; have R1 := CC.r.c1; have RF := CC.r.fz; have RL := CC.r.lt; have n0 := NN.c0; have n1 := NN.c1; have n2 := NN.c2; have n3 := NN.c3; have n4 := NN.c4; have nl := NN.lt) | (go_at_call 24; go_loud (refine (HH.out _ CC.pair).mono ?_); rintro e w11 ⟨p5, c5, rfl, hp7, hk7⟩; have C2' := CC.turn hp7 hk7 (fun _ _ h => h); have N2 := NN.on hk7; clear X0 X1 XF XL R0 R1 RF RL; clear n0 n1 n2 n3 n4 nl; clear CC NN hk7 hp7; have CC := C2'; have NN := N2; clear C2' N2; have X0 := CC.x.c0; have X1 := CC.x.c1; have XF := CC.x.fz; have XL := CC.x.lt; have R0 := CC.r.c0; have R1 := CC.r.c1; have RF := CC.r.fz; have RL := CC.r.lt; have n0 := NN.c0; have n1 := NN.c1; have n2 := NN.c2; have n3 := NN.c3; have n4 := NN.c4; have nl := NN.lt))
      have C1 := CC.lay
      have N1 := NN.keep (keeps_two w11 X (.slice p5 d3.length c5) (.int .i64 room5)) (by omega)
      clear X0 X1 XF XL R0 R1 RF RL
      clear n0 n1 n2 n3 n4 nl
      clear CC NN HG HH
      generalize (w11.setCell ⟨X, 0, none⟩ (.slice p5 d3.length c5)).setCell ⟨X, 1, none⟩ (.int .i64 room5) = w12 at *
      have CC := C1
      have NN := N1
      clear C1 N1
      have X0 := CC.x.c0; have X1 := CC.x.c1; have XF := CC.x.fz; have XL := CC.x.lt; have R0 := CC.r.c0; have R1 := CC.r.c1; have RF := CC.r.fz; have RL := CC.r.lt
      have n0 := NN.c0; have n1 := NN.c1; have n2 := NN.c2; have n3 := NN.c3; have n4 := NN.c4; have nl := NN.lt
      by_cases hap : er = 0 ∧ o.kind = 2
      · have hb1 : (er == 0) = true := by simpa using hap.1
        have hb2 : (o.kind == 2) = true := by simpa using hap.2
        have h3 := h2.out
        rw [if_pos hap] at h3
        have hoo := CC.o
        have hXl := CC.x.lt
        have hnw := CC.new
        clear hap
        go_wp2_with (at_builtin; refine wpl_append rfl (.tmp 120) (.tmp 122) rfl tInt (hoo.keep ((Keeps.refl NoB _).alloc _) (fun _ _ h => h)) (own_lit (S := fun _ => True) [(d.length : Int)] #[.int .i64 d.length] rfl 1 rfl trivial (by decide)).sl rfl rfl ⟨by simp; omega, by simp; omega⟩ (by simp [maxLen]; omega) (by simp; omega) ?_; intro v' w' ho' hk' hf')
        have C9 := (CC.on ((Keeps.refl NoB w12).alloc _)).app hk' ho' hf'
        go_roundw
        case rel =>
          refine ⟨k + 1, p5, c5, by go_num, by omega, ?_, hT'.out⟩
          rw [h3]
          exact C9
        case measure => simp [intOf]; omega
      · have h3 := h2.out
        rw [if_neg hap] at h3
        have hcs : (er == 0) = false ∨ ((er == 0) = true ∧ (o.kind == 2) = false) := by
          by_cases g1 : er = 0
          · exact .inr ⟨by simpa using g1, by simpa using fun g2 => hap ⟨g1, g2⟩⟩
          · exact .inl (by simpa using g1)
        clear hap
        rcases hcs with hb1 | ⟨hb1, hb2⟩
        all_goals
          go_wp2_with fail
          go_roundw
          case rel =>
            refine ⟨k + 1, p5, c5, by go_num, by omega, ?_, hT'.out⟩
            rw [h3]
            exact CC.less
          case measure => simp [intOf]; omega
    · obtain rfl : k = ls.length := by omega
      rw [List.take_length] at hC hT
      obtain ⟨s, hs⟩ : ∃ s, builtD ls = s := ⟨_, rfl⟩
      rw [hs] at hC hT
      replace hs := Lib.hid hs
      have CC := hC
      clear hC
      have X0 := CC.x.c0; have X1 := CC.x.c1; have XF := CC.x.fz; have XL := CC.x.lt; have R0 := CC.r.c0; have R1 := CC.r.c1; have RF := CC.r.fz; have RL := CC.r.lt
      have C1 := CC.pair
      have kR := CC.keeps
      have DR := CC.r
      obtain ⟨d, dl⟩ := s
      simp only at C1 X0
      have HE : ∀ wz : World, Keeps (fun b => b = W.heap.size) wr wz → BuiltEnd W a p c (d, dl) wz := fun wz kz => ⟨(C1.keep kz (fun g _ hg => .inl (by rw [hg]; exact Nat.le_refl _))).less (fun g (hg : g < W.heap.size) => .inl (Nat.le_of_lt hg)), kR.step kz (fun g hg => .inr (by rw [hg]; exact Nat.le_refl _))⟩
      replace HE := Lib.hid HE
      replace hT := Lib.hid hT
      clear CC C1 kR DR
      go_upto_region 26 with fail
      go_region
      all_goals
        go_wp2_with fail
        (try simp only [Exit.inBlock, Exit.then])
        refine bodyPost_ret (v := .tuple #[.pointer (some ⟨a, 0, none⟩), refV p c d room5, .bool true]) ?_ rfl ?_
        · rw [results_tmp_cell_tmp rfl]; unfold refV; go_simp
        · have he := HE.out _ ((keeps_two wr W.heap.size (.slice p d.length c) (.int .i64 room5)).drew)
          unfold BuiltTo
          rw [hs.out]
          exact ⟨a, p, c, rfl, he.1, hT.out, he.2⟩
end
end Go.Proofs.YtbcejodnjeklpaaDoor
