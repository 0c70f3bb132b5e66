/-
  Contracts of the reference for layer 4, the ninth part: Move, where it fails, or has nothing to do.
-/
import Derived.Test.YtbmalnllppamdaaGreatDoorB15
import Derived.Test.YtbmalnllppamdaaGreatDoorB12
import Derived.Test.YtbmalnllppamdaaGreatDoorB16

set_option linter.unusedSimpArgs false
set_option linter.unusedVariables false

namespace Go.Proofs.YtbmalnllppamdaaGreatDoor
open Go.RowKit
set_option maxRecDepth 100000
set_option maxHeartbeats 2000000

section
variable {S : Nat → Prop} {w : World} {p : Option Addr} {c : Nat} {d : Nds} {room : Int}

theorem r4move_e1 (h : RefAt S w p c d) (hI : DInv d) (hs : smallD d) (f : Int) (name : ByteArray) (t : Int) (other : ByteArray) (he : lookErr d f name ≠ 0 ∨ folderErr d t ≠ 0) :
    Calls Tryz.prog 146 #[refV p c d room, .int .i64 f, .string name, .int .i64 t, .string other] w (RTo S w d room (if lookErr d f name ≠ 0 then lookErr d f name else folderErr d t)) := by
  have hcap := h.cap
  have hmax := h.max
  unfold maxLen at hmax
  have HFo := Lib.hid (fun (w1 : World) (hk : Keeps NoB w w1) => r4folder_any (room := room) (h.keepN hk) hI.zero t)
  have HLk := Lib.hid (fun (w1 : World) (hk : Keeps NoB w w1) => r4look_any (room := room) (h.keepN hk) hI f name)
  have Hh := Lib.hid (fun (w1 : World) (hk : Keeps NoB w w1) => h.but2 hk)
  have B := rbox (w := w) (Keeps.refl NoB ((w.alloc (.cells #[.slice p d.length c, .int .i64 room] 31)).alloc (.cells #[.slice none 0 0, .int .i64 0] 31)))
  by_cases c0 : lookErr d f name = 0
  case neg =>
    rw [if_pos c0]
    clear h hI hs HFo he
    generalize lookErr d f name = er at *
    generalize lookOf d f name = ko at *
    unfold refV at *
    go_enter Tryz.func146, Tryz.ntmps146
    go_wp2_with (go_at_call 200; refine (HLk.out _ B.keeps).mono ?_; rintro e w1 ⟨rfl, hk1⟩; (try clear A0); (try clear A1); (try clear C0); (try clear C1); (try clear zA); (try clear zC); (try clear l0); (try clear l1); (try clear R0); (try clear R1); (try clear R2); (try clear R3); (try clear R4); (try clear hgl); (try clear Q0); (try clear T4); replace B := B.on hk1; clear hk1; have A0 := B.A0; have A1 := B.A1; have C0 := B.C0; have C1 := B.C1; have zA := B.zA; have zC := B.zC; have l0 : w.heap.size < w1.heap.size := Nat.lt_of_lt_of_le (by simp) B.size; have l1 : w.heap.size + 1 < w1.heap.size := B.size)
    (try simp only [Exit.inBlock, Exit.then])
    refine bodyPost_ret (v := .tuple #[.agg #[.slice p d.length c, .int .i64 room], .int .i64 er]) ?_ rfl ?_
    · rw [results_cell_tmp rfl]
      go_simp
    · exact rto_store (Hh.out _ B.keeps) B.keeps _ _
  case pos =>
    rw [if_neg (by simpa using c0)]
    replace he := he.resolve_left (by simpa using c0)
    rw [c0] at HLk
    clear h hI hs
    generalize folderErr d t = er at *
    generalize lookOf d f name = ko at *
    unfold refV at *
    go_enter Tryz.func146, Tryz.ntmps146
    go_wp2_with (first | (go_at_call 200; refine (HLk.out _ B.keeps).mono ?_; rintro e w1 ⟨rfl, hk1⟩; (try clear A0); (try clear A1); (try clear C0); (try clear C1); (try clear zA); (try clear zC); (try clear l0); (try clear l1); (try clear R0); (try clear R1); (try clear R2); (try clear R3); (try clear R4); (try clear hgl); (try clear Q0); (try clear T4); replace B := B.on hk1; clear hk1; have A0 := B.A0; have A1 := B.A1; have C0 := B.C0; have C1 := B.C1; have zA := B.zA; have zC := B.zC; have l0 : w.heap.size < w1.heap.size := Nat.lt_of_lt_of_le (by simp) B.size; have l1 : w.heap.size + 1 < w1.heap.size := B.size) | (go_at_call 196; refine (HFo.out _ B.keeps).mono ?_; rintro e w1 ⟨rfl, hk1⟩; (try clear A0); (try clear A1); (try clear C0); (try clear C1); (try clear zA); (try clear zC); (try clear l0); (try clear l1); (try clear R0); (try clear R1); (try clear R2); (try clear R3); (try clear R4); (try clear hgl); (try clear Q0); (try clear T4); replace B := B.on hk1; clear hk1; have A0 := B.A0; have A1 := B.A1; have C0 := B.C0; have C1 := B.C1; have zA := B.zA; have zC := B.zC; have l0 : w.heap.size < w1.heap.size := Nat.lt_of_lt_of_le (by simp) B.size; have l1 : w.heap.size + 1 < w1.heap.size := B.size))
    (try simp only [Exit.inBlock, Exit.then])
    refine bodyPost_ret (v := .tuple #[.agg #[.slice p d.length c, .int .i64 room], .int .i64 er]) ?_ rfl ?_
    · rw [results_cell_tmp rfl]
      go_simp
    · exact rto_store (Hh.out _ B.keeps) B.keeps _ _

/-- The rows that Move reads. -/
theorem move_rows (h : RefAt S w p c d) {f t k : Int} (hf : has d f) (ht : has d t) (hk : has d k) :
    ∃ (F T K : Nat) (g off : Nat) (q q' : Option Addr) (m m' : Nat), f = (F : Int) ∧ t = (T : Int) ∧ k = (K : Int) ∧ F < d.length ∧ T < d.length ∧ K < d.length ∧ p = some ⟨g, off, none⟩ ∧ S g ∧
    SlAt encEnt S w q m (nd d (F : Int)).ents ∧ SlAt encEnt S w q' m' (nd d (T : Int)).ents ∧ g < w.heap.size ∧
    (∀ w1, Keeps NoB w w1 → (w1.cell? ⟨g, off + F * 5, none⟩ = some (.int .i64 (nd d F).kind) ∧ w1.cell? ⟨g, off + F * 5 + 1, none⟩ = some (.int .i64 (nd d F).mode) ∧ w1.cell? ⟨g, off + F * 5 + 2, none⟩ = some (.int .i64 (nd d F).holds) ∧
      w1.cell? ⟨g, off + F * 5 + 3, none⟩ = some (.string (nd d F).data) ∧ w1.cell? ⟨g, off + F * 5 + 4, none⟩ = some (.slice q (nd d F).ents.length m) ∧ g < w1.heap.size ∧ w1.cell? ⟨g, off + K * 5, none⟩ = some (.int .i64 (nd d K).kind) ∧
      w1.cell? ⟨g, off + T * 5 + 4, none⟩ = some (.slice q' (nd d T).ents.length m'))) := by
  obtain ⟨F, rfl, hF⟩ := has_nat hf
  obtain ⟨T, rfl, hT⟩ := has_nat ht
  obtain ⟨K, rfl, hK⟩ := has_nat hk
  obtain ⟨g, off, q, m, rfl, hSg, hrow⟩ := h.rowAt hF
  obtain ⟨g', off', q', m', hp', _, hrow'⟩ := h.rowAt hT
  cases hp'
  obtain ⟨g'', off'', q'', m'', hp'', _, hrow''⟩ := h.rowAt hK
  cases hp''
  refine ⟨F, T, K, g, off, q, q', m, m', rfl, rfl, rfl, hF, hT, hK, rfl, hSg, hrow.sl, hrow'.sl, hrow.lt, fun w1 hk1 => ?_⟩
  exact ⟨(hrow.keepN hk1).c0, (hrow.keepN hk1).c1, (hrow.keepN hk1).c2, (hrow.keepN hk1).c3, (hrow.keepN hk1).c4, (hrow.keepN hk1).lt, (hrow''.keepN hk1).c0, (hrow'.keepN hk1).c4⟩

theorem r4below_says (h : RefAt S w p c d) (hI : DInv d) (hs : smallD d) (i top : Int) (hi : (nd d i).kind = 2) (ht : top ≠ 1) (b : Bool) (hb : b = true ↔ Above d top i) :
    Calls Tryz.prog 208 #[refV p c d room, .int .i64 i, .int .i64 top] w fun e w' => e = .returned (.bool b) ∧ Keeps NoB w w' := by
  refine (r4below_any h hI hs i top hi ht).mono ?_
  rintro e w' ⟨b', rfl, h1, h2⟩
  have : b' = b := by rw [Bool.eq_iff_iff, h1, hb]
  rw [this]
  exact ⟨rfl, h2⟩

theorem r4move_e2 (h : RefAt S w p c d) (hI : DInv d) (hs : smallD d) (f : Int) (name : ByteArray) (t : Int) (other : ByteArray) (k : Int) (c0 : lookErr d f name = 0) (hkk : lookOf d f name = k) (c1 : folderErr d t = 0) (hk2 : (nd d k).kind = 2) (ha : Above d k t) :
    Calls Tryz.prog 146 #[refV p c d room, .int .i64 f, .string name, .int .i64 t, .string other] w (RTo S w d room 23) := by
  have hcap := h.cap
  have hmax := h.max
  unfold maxLen at hmax
  obtain ⟨f0, hget⟩ := lookErr_zero c0
  rw [hkk] at hget
  obtain ⟨hf, hf2⟩ := folderErr_zero f0
  obtain ⟨ht, ht2⟩ := folderErr_zero c1
  have hk := (hI.tgt f _ (entGet_mem hget)).1
  have hk1 := (hI.tgt f _ (entGet_mem hget)).2
  have HFo := Lib.hid (fun (w1 : World) (hk : Keeps NoB w w1) => r4folder_any (room := room) (h.keepN hk) hI.zero t)
  have HLk := Lib.hid (fun (w1 : World) (hk : Keeps NoB w w1) => r4look_any (room := room) (h.keepN hk) hI f name)
  have HBe := Lib.hid (fun (w1 : World) (hkx : Keeps NoB w w1) => r4below_says (room := room) (h.keepN hkx) hI hs t k ht2 hk1 true ⟨fun _ => ha, fun _ => rfl⟩)
  rw [c0, hkk] at HLk
  rw [c1] at HFo
  have Hh := Lib.hid (fun (w1 : World) (hk : Keeps NoB w w1) => h.but2 hk)
  have B := rbox (w := w) (Keeps.refl NoB ((w.alloc (.cells #[.slice p d.length c, .int .i64 room] 31)).alloc (.cells #[.slice none 0 0, .int .i64 0] 31)))
  obtain ⟨F, T, K, g, off, q, q', m, m', rfl, rfl, rfl, hF, hT, hK, rfl, hSg, hsl, hsl', hg0, hc⟩ := move_rows h hf ht hk
  have HC := Lib.hid hc
  rw [hk2] at HC
  clear h hI hs hc hsl hsl' hget f0 c0 c1 hkk ha hk2 hf ht hk hk1 hf2 ht2
  generalize (nd d (F : Int)).ents = eF at *
  generalize (nd d (T : Int)).ents = eT at *
  unfold refV at *
  go_enter Tryz.func146, Tryz.ntmps146
  go_wp2_with (first | (go_at_call 200; refine (HLk.out _ B.keeps).mono ?_; rintro e w1 ⟨rfl, hk1⟩; (try clear A0); (try clear A1); (try clear C0); (try clear C1); (try clear zA); (try clear zC); (try clear l0); (try clear l1); (try clear R0); (try clear R1); (try clear R2); (try clear R3); (try clear R4); (try clear hgl); (try clear Q0); (try clear T4); replace B := B.on hk1; clear hk1; have A0 := B.A0; have A1 := B.A1; have C0 := B.C0; have C1 := B.C1; have zA := B.zA; have zC := B.zC; have l0 : w.heap.size < w1.heap.size := Nat.lt_of_lt_of_le (by simp) B.size; have l1 : w.heap.size + 1 < w1.heap.size := B.size; obtain ⟨R0, R1, R2, R3, R4, hgl, Q0, T4⟩ := HC.out _ B.keeps) | (go_at_call 196; refine (HFo.out _ B.keeps).mono ?_; rintro e w1 ⟨rfl, hk1⟩; (try clear A0); (try clear A1); (try clear C0); (try clear C1); (try clear zA); (try clear zC); (try clear l0); (try clear l1); (try clear R0); (try clear R1); (try clear R2); (try clear R3); (try clear R4); (try clear hgl); (try clear Q0); (try clear T4); replace B := B.on hk1; clear hk1; have A0 := B.A0; have A1 := B.A1; have C0 := B.C0; have C1 := B.C1; have zA := B.zA; have zC := B.zC; have l0 : w.heap.size < w1.heap.size := Nat.lt_of_lt_of_le (by simp) B.size; have l1 : w.heap.size + 1 < w1.heap.size := B.size; obtain ⟨R0, R1, R2, R3, R4, hgl, Q0, T4⟩ := HC.out _ B.keeps) | (go_at_call 208; refine (HBe.out _ B.keeps).mono ?_; rintro e w1 ⟨rfl, hk1⟩; (try clear A0); (try clear A1); (try clear C0); (try clear C1); (try clear zA); (try clear zC); (try clear l0); (try clear l1); (try clear R0); (try clear R1); (try clear R2); (try clear R3); (try clear R4); (try clear hgl); (try clear Q0); (try clear T4); replace B := B.on hk1; clear hk1; have A0 := B.A0; have A1 := B.A1; have C0 := B.C0; have C1 := B.C1; have zA := B.zA; have zC := B.zC; have l0 : w.heap.size < w1.heap.size := Nat.lt_of_lt_of_le (by simp) B.size; have l1 : w.heap.size + 1 < w1.heap.size := B.size; obtain ⟨R0, R1, R2, R3, R4, hgl, Q0, T4⟩ := HC.out _ B.keeps))
  (try simp only [Exit.inBlock, Exit.then])
  refine bodyPost_ret (v := .tuple #[.agg #[.slice (some ⟨g, off, none⟩) d.length c, .int .i64 room], .int .i64 23]) ?_ rfl ?_
  · rw [results_cell_tmp rfl]
    go_simp
  · exact rto_store (Hh.out _ B.keeps) B.keeps _ _

theorem r4move_e3 (h : RefAt S w p c d) (hI : DInv d) (hs : smallD d) (f : Int) (name : ByteArray) (t : Int) (other : ByteArray) (k old : Int) (c0 : lookErr d f name = 0) (hkk : lookOf d f name = k) (c1 : folderErr d t = 0) (htop : (nd d k).kind = 2 → ¬ Above d k t)
    (hold : entGet (nd d t).ents other = some old) (hor : old = k ∨ givesErr d k old ≠ 0) :
    Calls Tryz.prog 146 #[refV p c d room, .int .i64 f, .string name, .int .i64 t, .string other] w (RTo S w d room (if old = k then 0 else givesErr d k old)) := by
  have hcap := h.cap
  have hmax := h.max
  unfold maxLen at hmax
  obtain ⟨f0, hget⟩ := lookErr_zero c0
  rw [hkk] at hget
  obtain ⟨hf, hf2⟩ := folderErr_zero f0
  obtain ⟨ht, ht2⟩ := folderErr_zero c1
  have hk := (hI.tgt f _ (entGet_mem hget)).1
  have hk1 := (hI.tgt f _ (entGet_mem hget)).2
  have ho := (hI.tgt t _ (entGet_mem hold)).1
  have HFo := Lib.hid (fun (w1 : World) (hk : Keeps NoB w w1) => r4folder_any (room := room) (h.keepN hk) hI.zero t)
  have HLk := Lib.hid (fun (w1 : World) (hk : Keeps NoB w w1) => r4look_any (room := room) (h.keepN hk) hI f name)
  have HLo := Lib.hid (fun (w1 : World) (hk : Keeps NoB w w1) => r4look_any (room := room) (h.keepN hk) hI t other)
  have HGi := Lib.hid (fun (w1 : World) (hkx : Keeps NoB w w1) => r4gives_any (room := room) (h.keepN hkx) k old hk ho)
  have HBe := Lib.hid (fun (h2 : (nd d k).kind = 2) (w1 : World) (hkx : Keeps NoB w w1) => r4below_says (room := room) (h.keepN hkx) hI hs t k ht2 hk1 false ⟨(fun h => by cases h), fun h => absurd h (htop h2)⟩)
  have e1 : lookErr d t other = 0 := by unfold lookErr; rw [if_neg (by simpa using c1), hold]; rfl
  have e2 : lookOf d t other = old := by unfold lookOf; rw [if_neg (by simpa using c1), hold]; rfl
  rw [c0, hkk] at HLk
  rw [c1] at HFo
  rw [e1, e2] at HLo
  have Hh := Lib.hid (fun (w1 : World) (hk : Keeps NoB w w1) => h.but2 hk)
  have B := rbox (w := w) (Keeps.refl NoB ((w.alloc (.cells #[.slice p d.length c, .int .i64 room] 31)).alloc (.cells #[.slice none 0 0, .int .i64 0] 31)))
  have hne : k = old ∨ k ≠ old := Classical.em _
  obtain ⟨F, T, K, g, off, q, q', m, m', rfl, rfl, rfl, hF, hT, hK, rfl, hSg, hsl, hsl', hg0, hc⟩ := move_rows h hf ht hk
  have HC := Lib.hid hc
  have hkd : ((nd d (K : Int)).kind = 2) ∨ ((nd d (K : Int)).kind ≠ 2) := Classical.em _
  clear h hI hs hc hsl hsl' hget f0 c0 c1 hkk htop hf ht hk hk1 hf2 ht2 hold ho e1 e2
  generalize (nd d (F : Int)).ents = eF at *
  generalize (nd d (T : Int)).ents = eT at *
  generalize givesErr d K old = ge at *
  unfold refV at *
  rcases hkd with hkd | hkd
  case' inl => rw [hkd] at HC; replace HBe := Lib.hid (HBe.out hkd); clear hkd
  case' inr => clear HBe; generalize (nd d (K : Int)).kind = ko at *
  all_goals
    by_cases c3 : old = (K : Int)
    · subst c3
      rw [if_pos rfl]
      clear HGi hor hne
      go_enter Tryz.func146, Tryz.ntmps146
      go_wp2_with (first | (go_at_call 200; have HX := HLk; clear HLk; refine (HX.out _ B.keeps).mono ?_; clear HX; rintro e w1 ⟨rfl, hk1⟩; (try clear A0); (try clear A1); (try clear C0); (try clear C1); (try clear zA); (try clear zC); (try clear l0); (try clear l1); (try clear R0); (try clear R1); (try clear R2); (try clear R3); (try clear R4); (try clear hgl); (try clear Q0); (try clear T4); replace B := B.on hk1; clear hk1; have A0 := B.A0; have A1 := B.A1; have C0 := B.C0; have C1 := B.C1; have zA := B.zA; have zC := B.zC; have l0 : w.heap.size < w1.heap.size := Nat.lt_of_lt_of_le (by simp) B.size; have l1 : w.heap.size + 1 < w1.heap.size := B.size; obtain ⟨R0, R1, R2, R3, R4, hgl, Q0, T4⟩ := HC.out _ B.keeps) | (go_at_call 200; have HX := HLo; clear HLo; refine (HX.out _ B.keeps).mono ?_; clear HX; rintro e w1 ⟨rfl, hk1⟩; (try clear A0); (try clear A1); (try clear C0); (try clear C1); (try clear zA); (try clear zC); (try clear l0); (try clear l1); (try clear R0); (try clear R1); (try clear R2); (try clear R3); (try clear R4); (try clear hgl); (try clear Q0); (try clear T4); replace B := B.on hk1; clear hk1; have A0 := B.A0; have A1 := B.A1; have C0 := B.C0; have C1 := B.C1; have zA := B.zA; have zC := B.zC; have l0 : w.heap.size < w1.heap.size := Nat.lt_of_lt_of_le (by simp) B.size; have l1 : w.heap.size + 1 < w1.heap.size := B.size; obtain ⟨R0, R1, R2, R3, R4, hgl, Q0, T4⟩ := HC.out _ B.keeps) | (go_at_call 196; refine (HFo.out _ B.keeps).mono ?_; rintro e w1 ⟨rfl, hk1⟩; (try clear A0); (try clear A1); (try clear C0); (try clear C1); (try clear zA); (try clear zC); (try clear l0); (try clear l1); (try clear R0); (try clear R1); (try clear R2); (try clear R3); (try clear R4); (try clear hgl); (try clear Q0); (try clear T4); replace B := B.on hk1; clear hk1; have A0 := B.A0; have A1 := B.A1; have C0 := B.C0; have C1 := B.C1; have zA := B.zA; have zC := B.zC; have l0 : w.heap.size < w1.heap.size := Nat.lt_of_lt_of_le (by simp) B.size; have l1 : w.heap.size + 1 < w1.heap.size := B.size; obtain ⟨R0, R1, R2, R3, R4, hgl, Q0, T4⟩ := HC.out _ B.keeps) | (go_at_call 208; refine (HBe.out _ B.keeps).mono ?_; rintro e w1 ⟨rfl, hk1⟩; (try clear A0); (try clear A1); (try clear C0); (try clear C1); (try clear zA); (try clear zC); (try clear l0); (try clear l1); (try clear R0); (try clear R1); (try clear R2); (try clear R3); (try clear R4); (try clear hgl); (try clear Q0); (try clear T4); replace B := B.on hk1; clear hk1; have A0 := B.A0; have A1 := B.A1; have C0 := B.C0; have C1 := B.C1; have zA := B.zA; have zC := B.zC; have l0 : w.heap.size < w1.heap.size := Nat.lt_of_lt_of_le (by simp) B.size; have l1 : w.heap.size + 1 < w1.heap.size := B.size; obtain ⟨R0, R1, R2, R3, R4, hgl, Q0, T4⟩ := HC.out _ B.keeps))
      (try simp only [Exit.inBlock, Exit.then])
      refine bodyPost_ret (v := .tuple #[.agg #[.slice (some ⟨g, off, none⟩) d.length c, .int .i64 room], .int .i64 0]) ?_ rfl ?_
      · rw [results_cell_tmp rfl]
        go_simp
      · exact rto_store (Hh.out _ B.keeps) B.keeps _ _
    · rw [if_neg c3]
      replace hor := hor.resolve_left c3
      have hb3 : (old == (K : Int)) = false := by simpa using c3
      clear hne c3
      go_enter Tryz.func146, Tryz.ntmps146
      go_wp2_with (first | (go_at_call 200; have HX := HLk; clear HLk; refine (HX.out _ B.keeps).mono ?_; clear HX; rintro e w1 ⟨rfl, hk1⟩; (try clear A0); (try clear A1); (try clear C0); (try clear C1); (try clear zA); (try clear zC); (try clear l0); (try clear l1); (try clear R0); (try clear R1); (try clear R2); (try clear R3); (try clear R4); (try clear hgl); (try clear Q0); (try clear T4); replace B := B.on hk1; clear hk1; have A0 := B.A0; have A1 := B.A1; have C0 := B.C0; have C1 := B.C1; have zA := B.zA; have zC := B.zC; have l0 : w.heap.size < w1.heap.size := Nat.lt_of_lt_of_le (by simp) B.size; have l1 : w.heap.size + 1 < w1.heap.size := B.size; obtain ⟨R0, R1, R2, R3, R4, hgl, Q0, T4⟩ := HC.out _ B.keeps) | (go_at_call 200; have HX := HLo; clear HLo; refine (HX.out _ B.keeps).mono ?_; clear HX; rintro e w1 ⟨rfl, hk1⟩; (try clear A0); (try clear A1); (try clear C0); (try clear C1); (try clear zA); (try clear zC); (try clear l0); (try clear l1); (try clear R0); (try clear R1); (try clear R2); (try clear R3); (try clear R4); (try clear hgl); (try clear Q0); (try clear T4); replace B := B.on hk1; clear hk1; have A0 := B.A0; have A1 := B.A1; have C0 := B.C0; have C1 := B.C1; have zA := B.zA; have zC := B.zC; have l0 : w.heap.size < w1.heap.size := Nat.lt_of_lt_of_le (by simp) B.size; have l1 : w.heap.size + 1 < w1.heap.size := B.size; obtain ⟨R0, R1, R2, R3, R4, hgl, Q0, T4⟩ := HC.out _ B.keeps) | (go_at_call 196; refine (HFo.out _ B.keeps).mono ?_; rintro e w1 ⟨rfl, hk1⟩; (try clear A0); (try clear A1); (try clear C0); (try clear C1); (try clear zA); (try clear zC); (try clear l0); (try clear l1); (try clear R0); (try clear R1); (try clear R2); (try clear R3); (try clear R4); (try clear hgl); (try clear Q0); (try clear T4); replace B := B.on hk1; clear hk1; have A0 := B.A0; have A1 := B.A1; have C0 := B.C0; have C1 := B.C1; have zA := B.zA; have zC := B.zC; have l0 : w.heap.size < w1.heap.size := Nat.lt_of_lt_of_le (by simp) B.size; have l1 : w.heap.size + 1 < w1.heap.size := B.size; obtain ⟨R0, R1, R2, R3, R4, hgl, Q0, T4⟩ := HC.out _ B.keeps) | (go_at_call 208; refine (HBe.out _ B.keeps).mono ?_; rintro e w1 ⟨rfl, hk1⟩; (try clear A0); (try clear A1); (try clear C0); (try clear C1); (try clear zA); (try clear zC); (try clear l0); (try clear l1); (try clear R0); (try clear R1); (try clear R2); (try clear R3); (try clear R4); (try clear hgl); (try clear Q0); (try clear T4); replace B := B.on hk1; clear hk1; have A0 := B.A0; have A1 := B.A1; have C0 := B.C0; have C1 := B.C1; have zA := B.zA; have zC := B.zC; have l0 : w.heap.size < w1.heap.size := Nat.lt_of_lt_of_le (by simp) B.size; have l1 : w.heap.size + 1 < w1.heap.size := B.size; obtain ⟨R0, R1, R2, R3, R4, hgl, Q0, T4⟩ := HC.out _ B.keeps) | (go_at_call 209; refine (HGi.out _ B.keeps).mono ?_; rintro e w1 ⟨rfl, hk1⟩; (try clear A0); (try clear A1); (try clear C0); (try clear C1); (try clear zA); (try clear zC); (try clear l0); (try clear l1); (try clear R0); (try clear R1); (try clear R2); (try clear R3); (try clear R4); (try clear hgl); (try clear Q0); (try clear T4); replace B := B.on hk1; clear hk1; have A0 := B.A0; have A1 := B.A1; have C0 := B.C0; have C1 := B.C1; have zA := B.zA; have zC := B.zC; have l0 : w.heap.size < w1.heap.size := Nat.lt_of_lt_of_le (by simp) B.size; have l1 : w.heap.size + 1 < w1.heap.size := B.size; obtain ⟨R0, R1, R2, R3, R4, hgl, Q0, T4⟩ := HC.out _ B.keeps))
      (try simp only [Exit.inBlock, Exit.then])
      refine bodyPost_ret (v := .tuple #[.agg #[.slice (some ⟨g, off, none⟩) d.length c, .int .i64 room], .int .i64 ge]) ?_ rfl ?_
      · rw [results_cell_tmp rfl]
        go_simp
      · exact rto_store (Hh.out _ B.keeps) B.keeps _ _

end

end Go.Proofs.YtbmalnllppamdaaGreatDoor

/-
  The reference's Move: its variables in memory, and the facts of its two puts.
-/
namespace Go.Proofs.YtbmalnllppamdaaGreatDoor
open Go.RowKit
set_option maxRecDepth 100000
set_option maxHeartbeats 1000000

theorem RBox.keep {F : Nat → Prop} {w w1 w2 : World} {p : Option Addr} {n c : Nat} {room : Int} (h : RBox w w1 p n c room) (k : Keeps F w1 w2) (hA : ¬ F w.heap.size) (hC : ¬ F (w.heap.size + 1)) (hF : ∀ b, F b → w.heap.size ≤ b) : RBox w w2 p n c room := by
  have l1 := lt_of_cell h.A0
  have l2 := lt_of_cell h.C0
  have := k.size
  exact ⟨(k.cell (p := ⟨w.heap.size, 0, none⟩) l1 hA).trans h.A0, (k.cell (p := ⟨w.heap.size, 1, none⟩) l1 hA).trans h.A1, (k.cell (p := ⟨w.heap.size + 1, 0, none⟩) l2 hC).trans h.C0, (k.cell (p := ⟨w.heap.size + 1, 1, none⟩) l2 hC).trans h.C1,
    fun j => (k.frozen (p := ⟨w.heap.size, j, none⟩) l1 hA).trans (h.zA j), fun j => (k.frozen (p := ⟨w.heap.size + 1, j, none⟩) l2 hC).trans (h.zC j), by have := h.size; omega, h.keeps.step k (fun b hb => .inr (hF b hb))⟩

/-- The disk's variable stored. -/
theorem RBox.setA {w w1 : World} {p p' : Option Addr} {n n' c c' : Nat} {room room' : Int} (h : RBox w w1 p n c room) : RBox w ((w1.setCell ⟨w.heap.size, 0, none⟩ (.slice p' n' c')).setCell ⟨w.heap.size, 1, none⟩ (.int .i64 room')) p' n' c' room' := by
  have k : Keeps (fun b => b = w.heap.size) w1 ((w1.setCell ⟨w.heap.size, 0, none⟩ (.slice p' n' c')).setCell ⟨w.heap.size, 1, none⟩ (.int .i64 room')) := (keeps_set w1 ⟨w.heap.size, 0, none⟩ _).trans (keeps_set _ ⟨w.heap.size, 1, none⟩ _)
  have l2 := lt_of_cell h.C0
  have hC : ¬ w.heap.size + 1 = w.heap.size := by omega
  have := k.size
  refine ⟨?_, ?_, (k.cell (p := ⟨w.heap.size + 1, 0, none⟩) l2 hC).trans h.C0, (k.cell (p := ⟨w.heap.size + 1, 1, none⟩) l2 hC).trans h.C1, fun j => ?_, fun j => (k.frozen (p := ⟨w.heap.size + 1, j, none⟩) l2 hC).trans (h.zC j), by have := h.size; omega, h.keeps.step k (fun b hb => .inr (by omega))⟩
  · have h1 := cell_set (g := w.heap.size) (k := 0) (u := .slice p' n' c') (j := 0) h.A0
    rw [if_pos rfl] at h1
    have h2 := cell_set (g := w.heap.size) (k := 1) (u := .int .i64 room') (j := 0) h1
    rw [if_neg (by decide)] at h2
    exact h2
  · have h1 := cell_set (g := w.heap.size) (k := 0) (u := .slice p' n' c') (j := 1) h.A1
    rw [if_neg (by decide)] at h1
    have h2 := cell_set (g := w.heap.size) (k := 1) (u := .int .i64 room') (j := 1) h1
    rw [if_pos rfl] at h2
    exact h2
  · exact (frozen_set _ _ _ _).trans ((frozen_set _ _ _ _).trans (h.zA j))

theorem NBox.keep {F : Nat → Prop} {w1 w2 w3 : World} {v0 v1 v2 v3 v4 : Value} (h : NBox w1 w2 v0 v1 v2 v3 v4) (k : Keeps F w2 w3) (hN : ¬ F w1.heap.size) : NBox w1 w3 v0 v1 v2 v3 v4 := by
  have l := lt_of_cell h.N0
  exact ⟨(k.cell (p := ⟨w1.heap.size, 0, none⟩) l hN).trans h.N0, (k.cell (p := ⟨w1.heap.size, 1, none⟩) l hN).trans h.N1, (k.cell (p := ⟨w1.heap.size, 2, none⟩) l hN).trans h.N2, (k.cell (p := ⟨w1.heap.size, 3, none⟩) l hN).trans h.N3,
    (k.cell (p := ⟨w1.heap.size, 4, none⟩) l hN).trans h.N4, fun j => (k.frozen (p := ⟨w1.heap.size, j, none⟩) l hN).trans (h.zN j)⟩

theorem NBox.set4 {w1 w2 : World} {v0 v1 v2 v3 v4 : Value} (h : NBox w1 w2 v0 v1 v2 v3 v4) (v : Value) : NBox w1 (w2.setCell ⟨w1.heap.size, 4, none⟩ v) v0 v1 v2 v3 v := by
  have h0 := cell_set (g := w1.heap.size) (k := 4) (u := v) (j := 0) h.N0
  have h1 := cell_set (g := w1.heap.size) (k := 4) (u := v) (j := 1) h.N1
  have h2 := cell_set (g := w1.heap.size) (k := 4) (u := v) (j := 2) h.N2
  have h3 := cell_set (g := w1.heap.size) (k := 4) (u := v) (j := 3) h.N3
  have h4 := cell_set (g := w1.heap.size) (k := 4) (u := v) (j := 4) h.N4
  rw [if_neg (by decide)] at h0 h1 h2 h3
  rw [if_pos rfl] at h4
  exact ⟨h0, h1, h2, h3, h4, fun j => (frozen_set _ _ _ _).trans (h.zN j)⟩

theorem NBox.set5 {w1 w2 : World} {v0 v1 v2 v3 v4 : Value} (h : NBox w1 w2 v0 v1 v2 v3 v4) (u0 u1 u2 u3 u4 : Value) : NBox w1 (Go.Proofs.YtbmalnllppamdaaGreatDoor.set5 w2 w1.heap.size 0 u0 u1 u2 u3 u4) u0 u1 u2 u3 u4 := by
  have step : ∀ (W : World) (i : Nat) (u : Value) (x0 x1 x2 x3 x4 : Value), NBox w1 W x0 x1 x2 x3 x4 → NBox w1 (W.setCell ⟨w1.heap.size, i, none⟩ u) (if 0 = i then u else x0) (if 1 = i then u else x1) (if 2 = i then u else x2) (if 3 = i then u else x3) (if 4 = i then u else x4) := fun W i u x0 x1 x2 x3 x4 hW => by
    have e : ∀ j x, W.cell? ⟨w1.heap.size, j, none⟩ = some x → (W.setCell ⟨w1.heap.size, i, none⟩ u).cell? ⟨w1.heap.size, j, none⟩ = some (if j = i then u else x) := fun j x hx => by
      have := cell_set (g := w1.heap.size) (k := i) (u := u) (j := j) hx
      rw [this]
    exact ⟨e 0 _ hW.N0, e 1 _ hW.N1, e 2 _ hW.N2, e 3 _ hW.N3, e 4 _ hW.N4, fun j => (frozen_set _ _ _ _).trans (hW.zN j)⟩
  unfold Go.Proofs.YtbmalnllppamdaaGreatDoor.set5
  have s0 := step _ 0 u0 _ _ _ _ _ h
  have s1 := step _ 1 u1 _ _ _ _ _ s0
  have s2 := step _ 2 u2 _ _ _ _ _ s1
  have s3 := step _ 3 u3 _ _ _ _ _ s2
  have s4 := step _ 4 u4 _ _ _ _ _ s3
  simpa using s4

section
variable {S : Nat → Prop} {w w2 : World} {p : Option Addr} {c : Nat} {d : Nds} {room : Int} {N : Nat}

theorem RefAt.but3 (h : RefAt S w p c d) (hk : Keeps NoB w w2) (hN : w.heap.size + 2 ≤ N) : RefAt (But3 S w N) w2 p c d := h.keepS hk (fun _ _ _ h => h) (fun g hg hl => ⟨⟨hg, by omega, by omega⟩, by omega⟩)
theorem but3_new (hS : ∀ g, w.heap.size ≤ g → S g) (hN : w.heap.size + 2 ≤ N) (hsz : N < w2.heap.size) : ∀ g, w2.heap.size ≤ g → But3 S w N g := fun g hg => ⟨⟨hS g (by omega), by omega, by omega⟩, by omega⟩
theorem RefAt.of3 (h : RefAt (But3 S w N) w2 p c d) : RefAt (But2 S w) w2 p c d := h.keepS (Keeps.refl NoB _) (fun _ _ _ h => h) (fun _ hg _ => hg.1)
/-- A variable of the method stored: the disk stays. -/
theorem RefAt.var {w3 : World} {F : Nat → Prop} (h : RefAt (But3 S w N) w2 p c d) (k : Keeps F w2 w3) (hF : ∀ b, F b → b = w.heap.size ∨ b = w.heap.size + 1 ∨ b = N) : RefAt (But3 S w N) w3 p c d :=
  h.keepS k (fun b hb _ e => by rcases hF b e with e | e | e <;> first | exact hb.1.2.1 e | exact hb.1.2.2 e | exact hb.2 e) (fun _ hg _ => hg)
theorem SlAt.var3 {α : Type} {E : Enc α} {q : Option Addr} {m : Nat} {l : List α} {w3 : World} {F : Nat → Prop} (h : SlAt E (But3 S w N) w2 q m l) (k : Keeps F w2 w3) (hF : ∀ b, F b → b = w.heap.size ∨ b = w.heap.size + 1 ∨ b = N) : SlAt E (But3 S w N) w3 q m l :=
  h.keepS k (fun b hb _ e => by rcases hF b e with e | e | e <;> first | exact hb.1.2.1 e | exact hb.1.2.2 e | exact hb.2 e) (fun _ hg _ => hg)

/-- put of other entries, in a disk that lies beside the method's variables. -/
theorem put3 (h : RefAt (But3 S w N) w2 p c d) (hS : ∀ g, w.heap.size ≤ g → S g) (hN : w.heap.size + 2 ≤ N) (hsz : N < w2.heap.size) (hs : d.length ≤ 4294967296) (k : Nat) (hk : k < d.length) (l : List Ent) (q : Option Addr) (m : Nat) (hx : SlAt encEnt (But3 S w N) w2 q m l)
    (d' : Nds) (hd : setE d (k : Int) l = d') :
    Calls Tryz.prog 182 #[.agg #[.slice p d.length c, .int .i64 room], .int .i64 k, .agg #[.int .i64 (nd d (k : Int)).kind, .int .i64 (nd d (k : Int)).mode, .int .i64 (nd d (k : Int)).holds, .string (nd d (k : Int)).data, .slice q l.length m]] w2 fun e w' =>
      ∃ p' c', e = .returned (.agg #[.slice p' d.length c', .int .i64 room]) ∧ RefAt (But3 S w N) w' p' c' d' ∧ Keeps NoB w2 w' := by
  refine (r4put_any (S := But3 S w N) (room := room) h (but3_new hS hN hsz) k hk hs ((nd d (k : Int)).setEnts l) q m hx).mono ?_
  rintro e w' ⟨v', rfl, ⟨p', c', rfl, href⟩, hk'⟩
  have hl : (upd d (k : Int) ((nd d (k : Int)).setEnts l)).length = d.length := upd_length _ _ _
  refine ⟨p', c', by unfold refV; rw [hl], ?_, hk'⟩
  rw [← hd]
  exact href

end

end Go.Proofs.YtbmalnllppamdaaGreatDoor
