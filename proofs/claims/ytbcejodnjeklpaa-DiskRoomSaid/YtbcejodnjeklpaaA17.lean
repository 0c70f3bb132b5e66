/-
  Contracts of the reference for layer 4, the ninth part: Move, where it fails, or has nothing to do.
-/
import Derived.Test.YtbcejodnjeklpaaA15
import Derived.Test.YtbcejodnjeklpaaA12

set_option linter.unusedSimpArgs false
set_option linter.unusedVariables false

namespace Go.Proofs.Ytbcejodnjeklpaa
open Go.RowKit
set_option maxRecDepth 100000
set_option maxHeartbeats 2000000

section
variable {S : Nat → Prop} {w : World} {p : Option Addr} {c : Nat} {d : Nds} {room : Int}

theorem r4move_e1 (h : RefAt S w p c d) (hI : DInv d) (hs : smallD d) (f : Int) (name : ByteArray) (t : Int) (other : ByteArray) (he : lookErr d f name ≠ 0 ∨ folderErr d t ≠ 0) :
    Calls Try.prog 28 #[refV p c d room, .int .i64 f, .string name, .int .i64 t, .string other] w (RTo S w d room (if lookErr d f name ≠ 0 then lookErr d f name else folderErr d t)) := by
  have hcap := h.cap
  have hmax := h.max
  unfold maxLen at hmax
  have HFo := Lib.hid (fun (w1 : World) (hk : Keeps NoB w w1) => r4folder_any (room := room) (h.keepN hk) hI.zero t)
  have HLk := Lib.hid (fun (w1 : World) (hk : Keeps NoB w w1) => r4look_any (room := room) (h.keepN hk) hI f name)
  have Hh := Lib.hid (fun (w1 : World) (hk : Keeps NoB w w1) => h.but2 hk)
  have B := rbox (w := w) (Keeps.refl NoB ((w.alloc (.cells #[.slice p d.length c, .int .i64 room] 39)).alloc (.cells #[.slice none 0 0, .int .i64 0] 39)))
  by_cases c0 : lookErr d f name = 0
  case neg =>
    rw [if_pos c0]
    clear h hI hs HFo he
    generalize lookErr d f name = er at *
    generalize lookOf d f name = ko at *
    unfold refV at *
    go_enter Try.func28, Try.ntmps28
    go_wp2_with (go_at_call 27; refine (HLk.out _ B.keeps).mono ?_; rintro e w1 ⟨rfl, hk1⟩; (try clear A0); (try clear A1); (try clear C0); (try clear C1); (try clear zA); (try clear zC); (try clear l0); (try clear l1); (try clear R0); (try clear R1); (try clear R2); (try clear R3); (try clear R4); (try clear hgl); (try clear Q0); (try clear T4); replace B := B.on hk1; clear hk1; have A0 := B.A0; have A1 := B.A1; have C0 := B.C0; have C1 := B.C1; have zA := B.zA; have zC := B.zC; have l0 : w.heap.size < w1.heap.size := Nat.lt_of_lt_of_le (by simp) B.size; have l1 : w.heap.size + 1 < w1.heap.size := B.size)
    (try simp only [Exit.inBlock, Exit.then])
    refine bodyPost_ret (v := .tuple #[.agg #[.slice p d.length c, .int .i64 room], .int .i64 er]) ?_ rfl ?_
    · rw [results_cell_tmp rfl]
      go_simp
    · exact rto_store (Hh.out _ B.keeps) B.keeps _ _
  case pos =>
    rw [if_neg (by simpa using c0)]
    replace he := he.resolve_left (by simpa using c0)
    rw [c0] at HLk
    clear h hI hs
    generalize folderErr d t = er at *
    generalize lookOf d f name = ko at *
    unfold refV at *
    go_enter Try.func28, Try.ntmps28
    go_wp2_with (first | (go_at_call 27; refine (HLk.out _ B.keeps).mono ?_; rintro e w1 ⟨rfl, hk1⟩; (try clear A0); (try clear A1); (try clear C0); (try clear C1); (try clear zA); (try clear zC); (try clear l0); (try clear l1); (try clear R0); (try clear R1); (try clear R2); (try clear R3); (try clear R4); (try clear hgl); (try clear Q0); (try clear T4); replace B := B.on hk1; clear hk1; have A0 := B.A0; have A1 := B.A1; have C0 := B.C0; have C1 := B.C1; have zA := B.zA; have zC := B.zC; have l0 : w.heap.size < w1.heap.size := Nat.lt_of_lt_of_le (by simp) B.size; have l1 : w.heap.size + 1 < w1.heap.size := B.size) | (go_at_call 38; refine (HFo.out _ B.keeps).mono ?_; rintro e w1 ⟨rfl, hk1⟩; (try clear A0); (try clear A1); (try clear C0); (try clear C1); (try clear zA); (try clear zC); (try clear l0); (try clear l1); (try clear R0); (try clear R1); (try clear R2); (try clear R3); (try clear R4); (try clear hgl); (try clear Q0); (try clear T4); replace B := B.on hk1; clear hk1; have A0 := B.A0; have A1 := B.A1; have C0 := B.C0; have C1 := B.C1; have zA := B.zA; have zC := B.zC; have l0 : w.heap.size < w1.heap.size := Nat.lt_of_lt_of_le (by simp) B.size; have l1 : w.heap.size + 1 < w1.heap.size := B.size))
    (try simp only [Exit.inBlock, Exit.then])
    refine bodyPost_ret (v := .tuple #[.agg #[.slice p d.length c, .int .i64 room], .int .i64 er]) ?_ rfl ?_
    · rw [results_cell_tmp rfl]
      go_simp
    · exact rto_store (Hh.out _ B.keeps) B.keeps _ _

/-- The rows that Move reads. -/
theorem move_rows (h : RefAt S w p c d) {f t k : Int} (hf : has d f) (ht : has d t) (hk : has d k) :
    ∃ (F T K : Nat) (g off : Nat) (q q' : Option Addr) (m m' : Nat), f = (F : Int) ∧ t = (T : Int) ∧ k = (K : Int) ∧ F < d.length ∧ T < d.length ∧ K < d.length ∧ p = some ⟨g, off, none⟩ ∧ S g ∧
    SlAt encEnt S w q m (nd d (F : Int)).ents ∧ SlAt encEnt S w q' m' (nd d (T : Int)).ents ∧ g < w.heap.size ∧
    (∀ w1, Keeps NoB w w1 → (w1.cell? ⟨g, off + F * 5, none⟩ = some (.int .i64 (nd d F).kind) ∧ w1.cell? ⟨g, off + F * 5 + 1, none⟩ = some (.int .i64 (nd d F).mode) ∧ w1.cell? ⟨g, off + F * 5 + 2, none⟩ = some (.int .i64 (nd d F).holds) ∧
      w1.cell? ⟨g, off + F * 5 + 3, none⟩ = some (.string (nd d F).data) ∧ w1.cell? ⟨g, off + F * 5 + 4, none⟩ = some (.slice q (nd d F).ents.length m) ∧ g < w1.heap.size ∧ w1.cell? ⟨g, off + K * 5, none⟩ = some (.int .i64 (nd d K).kind) ∧
      w1.cell? ⟨g, off + T * 5 + 4, none⟩ = some (.slice q' (nd d T).ents.length m'))) := by
  obtain ⟨F, rfl, hF⟩ := has_nat hf
  obtain ⟨T, rfl, hT⟩ := has_nat ht
  obtain ⟨K, rfl, hK⟩ := has_nat hk
  obtain ⟨g, off, q, m, rfl, hSg, hrow⟩ := h.rowAt hF
  obtain ⟨g', off', q', m', hp', _, hrow'⟩ := h.rowAt hT
  cases hp'
  obtain ⟨g'', off'', q'', m'', hp'', _, hrow''⟩ := h.rowAt hK
  cases hp''
  refine ⟨F, T, K, g, off, q, q', m, m', rfl, rfl, rfl, hF, hT, hK, rfl, hSg, hrow.sl, hrow'.sl, hrow.lt, fun w1 hk1 => ?_⟩
  exact ⟨(hrow.keepN hk1).c0, (hrow.keepN hk1).c1, (hrow.keepN hk1).c2, (hrow.keepN hk1).c3, (hrow.keepN hk1).c4, (hrow.keepN hk1).lt, (hrow''.keepN hk1).c0, (hrow'.keepN hk1).c4⟩

theorem r4below_says (h : RefAt S w p c d) (hI : DInv d) (hs : smallD d) (i top : Int) (hi : (nd d i).kind = 2) (ht : top ≠ 1) (b : Bool) (hb : b = true ↔ Above d top i) :
    Calls Try.prog 59 #[refV p c d room, .int .i64 i, .int .i64 top] w fun e w' => e = .returned (.bool b) ∧ Keeps NoB w w' := by
  refine (r4below_any h hI hs i top hi ht).mono ?_
  rintro e w' ⟨b', rfl, h1, h2⟩
  have : b' = b := by rw [Bool.eq_iff_iff, h1, hb]
  rw [this]
  exact ⟨rfl, h2⟩

theorem r4move_e2 (h : RefAt S w p c d) (hI : DInv d) (hs : smallD d) (f : Int) (name : ByteArray) (t : Int) (other : ByteArray) (k : Int) (c0 : lookErr d f name = 0) (hkk : lookOf d f name = k) (c1 : folderErr d t = 0) (hk2 : (nd d k).kind = 2) (ha : Above d k t) :
    Calls Try.prog 28 #[refV p c d room, .int .i64 f, .string name, .int .i64 t, .string other] w (RTo S w d room 23) := by
  have hcap := h.cap
  have hmax := h.max
  unfold maxLen at hmax
  obtain ⟨f0, hget⟩ := lookErr_zero c0
  rw [hkk] at hget
  obtain ⟨hf, hf2⟩ := folderErr_zero f0
  obtain ⟨ht, ht2⟩ := folderErr_zero c1
  have hk := (hI.tgt f _ (entGet_mem hget)).1
  have hk1 := (hI.tgt f _ (entGet_mem hget)).2
  have HFo := Lib.hid (fun (w1 : World) (hk : Keeps NoB w w1) => r4folder_any (room := room) (h.keepN hk) hI.zero t)
  have HLk := Lib.hid (fun (w1 : World) (hk : Keeps NoB w w1) => r4look_any (room := room) (h.keepN hk) hI f name)
  have HBe := Lib.hid (fun (w1 : World) (hkx : Keeps NoB w w1) => r4below_says (room := room) (h.keepN hkx) hI hs t k ht2 hk1 true ⟨fun _ => ha, fun _ => rfl⟩)
  rw [c0, hkk] at HLk
  rw [c1] at HFo
  have Hh := Lib.hid (fun (w1 : World) (hk : Keeps NoB w w1) => h.but2 hk)
  have B := rbox (w := w) (Keeps.refl NoB ((w.alloc (.cells #[.slice p d.length c, .int .i64 room] 39)).alloc (.cells #[.slice none 0 0, .int .i64 0] 39)))
  obtain ⟨F, T, K, g, off, q, q', m, m', rfl, rfl, rfl, hF, hT, hK, rfl, hSg, hsl, hsl', hg0, hc⟩ := move_rows h hf ht hk
  have HC := Lib.hid hc
  rw [hk2] at HC
  clear h hI hs hc hsl hsl' hget f0 c0 c1 hkk ha hk2 hf ht hk hk1 hf2 ht2
  generalize (nd d (F : Int)).ents = eF at *
  generalize (nd d (T : Int)).ents = eT at *
  unfold refV at *
  go_enter Try.func28, Try.ntmps28
  go_wp2_with (first | (go_at_call 27; refine (HLk.out _ B.keeps).mono ?_; rintro e w1 ⟨rfl, hk1⟩; (try clear A0); (try clear A1); (try clear C0); (try clear C1); (try clear zA); (try clear zC); (try clear l0); (try clear l1); (try clear R0); (try clear R1); (try clear R2); (try clear R3); (try clear R4); (try clear hgl); (try clear Q0); (try clear T4); replace B := B.on hk1; clear hk1; have A0 := B.A0; have A1 := B.A1; have C0 := B.C0; have C1 := B.C1; have zA := B.zA; have zC := B.zC; have l0 : w.heap.size < w1.heap.size := Nat.lt_of_lt_of_le (by simp) B.size; have l1 : w.heap.size + 1 < w1.heap.size := B.size; obtain ⟨R0, R1, R2, R3, R4, hgl, Q0, T4⟩ := HC.out _ B.keeps) | (go_at_call 38; refine (HFo.out _ B.keeps).mono ?_; rintro e w1 ⟨rfl, hk1⟩; (try clear A0); (try clear A1); (try clear C0); (try clear C1); (try clear zA); (try clear zC); (try clear l0); (try clear l1); (try clear R0); (try clear R1); (try clear R2); (try clear R3); (try clear R4); (try clear hgl); (try clear Q0); (try clear T4); replace B := B.on hk1; clear hk1; have A0 := B.A0; have A1 := B.A1; have C0 := B.C0; have C1 := B.C1; have zA := B.zA; have zC := B.zC; have l0 : w.heap.size < w1.heap.size := Nat.lt_of_lt_of_le (by simp) B.size; have l1 : w.heap.size + 1 < w1.heap.size := B.size; obtain ⟨R0, R1, R2, R3, R4, hgl, Q0, T4⟩ := HC.out _ B.keeps) | (go_at_call 59; refine (HBe.out _ B.keeps).mono ?_; rintro e w1 ⟨rfl, hk1⟩; (try clear A0); (try clear A1); (try clear C0); (try clear C1); (try clear zA); (try clear zC); (try clear l0); (try clear l1); (try clear R0); (try clear R1); (try clear R2); (try clear R3); (try clear R4); (try clear hgl); (try clear Q0); (try clear T4); replace B := B.on hk1; clear hk1; have A0 := B.A0; have A1 := B.A1; have C0 := B.C0; have C1 := B.C1; have zA := B.zA; have zC := B.zC; have l0 : w.heap.size < w1.heap.size := Nat.lt_of_lt_of_le (by simp) B.size; have l1 : w.heap.size + 1 < w1.heap.size := B.size; obtain ⟨R0, R1, R2, R3, R4, hgl, Q0, T4⟩ := HC.out _ B.keeps))
  (try simp only [Exit.inBlock, Exit.then])
  refine bodyPost_ret (v := .tuple #[.agg #[.slice (some ⟨g, off, none⟩) d.length c, .int .i64 room], .int .i64 23]) ?_ rfl ?_
  · rw [results_cell_tmp rfl]
    go_simp
  · exact rto_store (Hh.out _ B.keeps) B.keeps _ _

theorem r4move_e3 (h : RefAt S w p c d) (hI : DInv d) (hs : smallD d) (f : Int) (name : ByteArray) (t : Int) (other : ByteArray) (k old : Int) (c0 : lookErr d f name = 0) (hkk : lookOf d f name = k) (c1 : folderErr d t = 0) (htop : (nd d k).kind = 2 → ¬ Above d k t)
    (hold : entGet (nd d t).ents other = some old) (hor : old = k ∨ givesErr d k old ≠ 0) :
    Calls Try.prog 28 #[refV p c d room, .int .i64 f, .string name, .int .i64 t, .string other] w (RTo S w d room (if old = k then 0 else givesErr d k old)) := by
  have hcap := h.cap
  have hmax := h.max
  unfold maxLen at hmax
  obtain ⟨f0, hget⟩ := lookErr_zero c0
  rw [hkk] at hget
  obtain ⟨hf, hf2⟩ := folderErr_zero f0
  obtain ⟨ht, ht2⟩ := folderErr_zero c1
  have hk := (hI.tgt f _ (entGet_mem hget)).1
  have hk1 := (hI.tgt f _ (entGet_mem hget)).2
  have ho := (hI.tgt t _ (entGet_mem hold)).1
  have HFo := Lib.hid (fun (w1 : World) (hk : Keeps NoB w w1) => r4folder_any (room := room) (h.keepN hk) hI.zero t)
  have HLk := Lib.hid (fun (w1 : World) (hk : Keeps NoB w w1) => r4look_any (room := room) (h.keepN hk) hI f name)
  have HLo := Lib.hid (fun (w1 : World) (hk : Keeps NoB w w1) => r4look_any (room := room) (h.keepN hk) hI t other)
  have HGi := Lib.hid (fun (w1 : World) (hkx : Keeps NoB w w1) => r4gives_any (room := room) (h.keepN hkx) k old hk ho)
  have HBe := Lib.hid (fun (h2 : (nd d k).kind = 2) (w1 : World) (hkx : Keeps NoB w w1) => r4below_says (room := room) (h.keepN hkx) hI hs t k ht2 hk1 false ⟨(fun h => by cases h), fun h => absurd h (htop h2)⟩)
  have e1 : lookErr d t other = 0 := by unfold lookErr; rw [if_neg (by simpa using c1), hold]; rfl
  have e2 : lookOf d t other = old := by unfold lookOf; rw [if_neg (by simpa using c1), hold]; rfl
  rw [c0, hkk] at HLk
  rw [c1] at HFo
  rw [e1, e2] at HLo
  have Hh := Lib.hid (fun (w1 : World) (hk : Keeps NoB w w1) => h.but2 hk)
  have B := rbox (w := w) (Keeps.refl NoB ((w.alloc (.cells #[.slice p d.length c, .int .i64 room] 39)).alloc (.cells #[.slice none 0 0, .int .i64 0] 39)))
  have hne : k = old ∨ k ≠ old := Classical.em _
  obtain ⟨F, T, K, g, off, q, q', m, m', rfl, rfl, rfl, hF, hT, hK, rfl, hSg, hsl, hsl', hg0, hc⟩ := move_rows h hf ht hk
  have HC := Lib.hid hc
  have hkd : ((nd d (K : Int)).kind = 2) ∨ ((nd d (K : Int)).kind ≠ 2) := Classical.em _
  clear h hI hs hc hsl hsl' hget f0 c0 c1 hkk htop hf ht hk hk1 hf2 ht2 hold ho e1 e2
  generalize (nd d (F : Int)).ents = eF at *
  generalize (nd d (T : Int)).ents = eT at *
  generalize givesErr d K old = ge at *
  unfold refV at *
  rcases hkd with hkd | hkd
  case' inl => rw [hkd] at HC; replace HBe := Lib.hid (HBe.out hkd); clear hkd
  case' inr => clear HBe; generalize (nd d (K : Int)).kind = ko at *
  all_goals
    by_cases c3 : old = (K : Int)
    · subst c3
      rw [if_pos rfl]
      clear HGi hor hne
      go_enter Try.func28, Try.ntmps28
      go_wp2_with (first | (go_at_call 27; have HX := HLk; clear HLk; refine (HX.out _ B.keeps).mono ?_; clear HX; rintro e w1 ⟨rfl, hk1⟩; (try clear A0); (try clear A1); (try clear C0); (try clear C1); (try clear zA); (try clear zC); (try clear l0); (try clear l1); (try clear R0); (try clear R1); (try clear R2); (try clear R3); (try clear R4); (try clear hgl); (try clear Q0); (try clear T4); replace B := B.on hk1; clear hk1; have A0 := B.A0; have A1 := B.A1; have C0 := B.C0; have C1 := B.C1; have zA := B.zA; have zC := B.zC; have l0 : w.heap.size < w1.heap.size := Nat.lt_of_lt_of_le (by simp) B.size; have l1 : w.heap.size + 1 < w1.heap.size := B.size; obtain ⟨R0, R1, R2, R3, R4, hgl, Q0, T4⟩ := HC.out _ B.keeps) | (go_at_call 27; have HX := HLo; clear HLo; refine (HX.out _ B.keeps).mono ?_; clear HX; rintro e w1 ⟨rfl, hk1⟩; (try clear A0); (try clear A1); (try clear C0); (try clear C1); (try clear zA); (try clear zC); (try clear l0); (try clear l1); (try clear R0); (try clear R1); (try clear R2); (try clear R3); (try clear R4); (try clear hgl); (try clear Q0); (try clear T4); replace B := B.on hk1; clear hk1; have A0 := B.A0; have A1 := B.A1; have C0 := B.C0; have C1 := B.C1; have zA := B.zA; have zC := B.zC; have l0 : w.heap.size < w1.heap.size := Nat.lt_of_lt_of_le (by simp) B.size; have l1 : w.heap.size + 1 < w1.heap.size := B.size; obtain ⟨R0, R1, R2, R3, R4, hgl, Q0, T4⟩ := HC.out _ B.keeps) | (go_at_call 38; refine (HFo.out _ B.keeps).mono ?_; rintro e w1 ⟨rfl, hk1⟩; (try clear A0); (try clear A1); (try clear C0); (try clear C1); (try clear zA); (try clear zC); (try clear l0); (try clear l1); (try clear R0); (try clear R1); (try clear R2); (try clear R3); (try clear R4); (try clear hgl); (try clear Q0); (try clear T4); replace B := B.on hk1; clear hk1; have A0 := B.A0; have A1 := B.A1; have C0 := B.C0; have C1 := B.C1; have zA := B.zA; have zC := B.zC; have l0 : w.heap.size < w1.heap.size := Nat.lt_of_lt_of_le (by simp) B.size; have l1 : w.heap.size + 1 < w1.heap.size := B.size; obtain ⟨R0, R1, R2, R3, R4, hgl, Q0, T4⟩ := HC.out _ B.keeps) | (go_at_call 59; refine (HBe.out _ B.keeps).mono ?_; rintro e w1 ⟨rfl, hk1⟩; (try clear A0); (try clear A1); (try clear C0); (try clear C1); (try clear zA); (try clear zC); (try clear l0); (try clear l1); (try clear R0); (try clear R1); (try clear R2); (try clear R3); (try clear R4); (try clear hgl); (try clear Q0); (try clear T4); replace B := B.on hk1; clear hk1; have A0 := B.A0; have A1 := B.A1; have C0 := B.C0; have C1 := B.C1; have zA := B.zA; have zC := B.zC; have l0 : w.heap.size < w1.heap.size := Nat.lt_of_lt_of_le (by simp) B.size; have l1 : w.heap.size + 1 < w1.heap.size := B.size; obtain ⟨R0, R1, R2, R3, R4, hgl, Q0, T4⟩ := HC.out _ B.keeps))
      (try simp only [Exit.inBlock, Exit.then])
      refine bodyPost_ret (v := .tuple #[.agg #[.slice (some ⟨g, off, none⟩) d.length c, .int .i64 room], .int .i64 0]) ?_ rfl ?_
      · rw [results_cell_tmp rfl]
        go_simp
      · exact rto_store (Hh.out _ B.keeps) B.keeps _ _
    · rw [if_neg c3]
      replace hor := hor.resolve_left c3
      have hb3 : (old == (K : Int)) = false := by simpa using c3
      clear hne c3
      go_enter Try.func28, Try.ntmps28
      go_wp2_with (first | (go_at_call 27; have HX := HLk; clear HLk; refine (HX.out _ B.keeps).mono ?_; clear HX; rintro e w1 ⟨rfl, hk1⟩; (try clear A0); (try clear A1); (try clear C0); (try clear C1); (try clear zA); (try clear zC); (try clear l0); (try clear l1); (try clear R0); (try clear R1); (try clear R2); (try clear R3); (try clear R4); (try clear hgl); (try clear Q0); (try clear T4); replace B := B.on hk1; clear hk1; have A0 := B.A0; have A1 := B.A1; have C0 := B.C0; have C1 := B.C1; have zA := B.zA; have zC := B.zC; have l0 : w.heap.size < w1.heap.size := Nat.lt_of_lt_of_le (by simp) B.size; have l1 : w.heap.size + 1 < w1.heap.size := B.size; obtain ⟨R0, R1, R2, R3, R4, hgl, Q0, T4⟩ := HC.out _ B.keeps) | (go_at_call 27; have HX := HLo; clear HLo; refine (HX.out _ B.keeps).mono ?_; clear HX; rintro e w1 ⟨rfl, hk1⟩; (try clear A0); (try clear A1); (try clear C0); (try clear C1); (try clear zA); (try clear zC); (try clear l0); (try clear l1); (try clear R0); (try clear R1); (try clear R2); (try clear R3); (try clear R4); (try clear hgl); (try clear Q0); (try clear T4); replace B := B.on hk1; clear hk1; have A0 := B.A0; have A1 := B.A1; have C0 := B.C0; have C1 := B.C1; have zA := B.zA; have zC := B.zC; have l0 : w.heap.size < w1.heap.size := Nat.lt_of_lt_of_le (by simp) B.size; have l1 : w.heap.size + 1 < w1.heap.size := B.size; obtain ⟨R0, R1, R2, R3, R4, hgl, Q0, T4⟩ := HC.out _ B.keeps) | (go_at_call 38; refine (HFo.out _ B.keeps).mono ?_; rintro e w1 ⟨rfl, hk1⟩; (try clear A0); (try clear A1); (try clear C0); (try clear C1); (try clear zA); (try clear zC); (try clear l0); (try clear l1); (try clear R0); (try clear R1); (try clear R2); (try clear R3); (try clear R4); (try clear hgl); (try clear Q0); (try clear T4); replace B := B.on hk1; clear hk1; have A0 := B.A0; have A1 := B.A1; have C0 := B.C0; have C1 := B.C1; have zA := B.zA; have zC := B.zC; have l0 : w.heap.size < w1.heap.size := Nat.lt_of_lt_of_le (by simp) B.size; have l1 : w.heap.size + 1 < w1.heap.size := B.size; obtain ⟨R0, R1, R2, R3, R4, hgl, Q0, T4⟩ := HC.out _ B.keeps) | (go_at_call 59; refine (HBe.out _ B.keeps).mono ?_; rintro e w1 ⟨rfl, hk1⟩; (try clear A0); (try clear A1); (try clear C0); (try clear C1); (try clear zA); (try clear zC); (try clear l0); (try clear l1); (try clear R0); (try clear R1); (try clear R2); (try clear R3); (try clear R4); (try clear hgl); (try clear Q0); (try clear T4); replace B := B.on hk1; clear hk1; have A0 := B.A0; have A1 := B.A1; have C0 := B.C0; have C1 := B.C1; have zA := B.zA; have zC := B.zC; have l0 : w.heap.size < w1.heap.size := Nat.lt_of_lt_of_le (by simp) B.size; have l1 : w.heap.size + 1 < w1.heap.size := B.size; obtain ⟨R0, R1, R2, R3, R4, hgl, Q0, T4⟩ := HC.out _ B.keeps) | (go_at_call 60; refine (HGi.out _ B.keeps).mono ?_; rintro e w1 ⟨rfl, hk1⟩; (try clear A0); (try clear A1); (try clear C0); (try clear C1); (try clear zA); (try clear zC); (try clear l0); (try clear l1); (try clear R0); (try clear R1); (try clear R2); (try clear R3); (try clear R4); (try clear hgl); (try clear Q0); (try clear T4); replace B := B.on hk1; clear hk1; have A0 := B.A0; have A1 := B.A1; have C0 := B.C0; have C1 := B.C1; have zA := B.zA; have zC := B.zC; have l0 : w.heap.size < w1.heap.size := Nat.lt_of_lt_of_le (by simp) B.size; have l1 : w.heap.size + 1 < w1.heap.size := B.size; obtain ⟨R0, R1, R2, R3, R4, hgl, Q0, T4⟩ := HC.out _ B.keeps))
      (try simp only [Exit.inBlock, Exit.then])
      refine bodyPost_ret (v := .tuple #[.agg #[.slice (some ⟨g, off, none⟩) d.length c, .int .i64 room], .int .i64 ge]) ?_ rfl ?_
      · rw [results_cell_tmp rfl]
        go_simp
      · exact rto_store (Hh.out _ B.keeps) B.keeps _ _

end

end Go.Proofs.Ytbcejodnjeklpaa
