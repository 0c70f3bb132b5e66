/-
  Contracts of the reference for layer 5: way.
-/
import Derived.Test.YtijbhmledmnifaaGreatDoorG11
import Derived.Test.YtijbhmledmnifaaGreatDoorG09

set_option linter.unusedSimpArgs false
set_option linter.unusedVariables false

set_option maxRecDepth 100000
set_option maxHeartbeats 40000000
namespace Go.Proofs.YtijbhmledmnifaaGreatDoor
open Go Go.RowKit
theorem absB_first (s : ByteArray) (h : 1 ≤ s.size) : absB s = decide (s[0] = 47) := by
  unfold absB
  rw [List.getElem?_eq_getElem (by rw [len_data]; omega), Bool.eq_iff_iff, decide_eq_true_eq, decide_eq_true_eq]
  exact ⟨fun h => Option.some.inj h, fun e => congrArg some e⟩
theorem up_has {d : Nds} {up : Int → Int} (hI : DInv d) (hup : ∀ i u, folderErr d i = 0 → UpIs d i u → up i = u) (i : Int) (hf : folderErr d i = 0) : has d (up i) := by
  by_cases hc : cnt d i = 0
  · rw [hup i 1 hf (.inl ⟨hc, rfl⟩)]
    unfold has; rw [hI.root]; decide
  · obtain ⟨j, e, he, hei⟩ := cnt_pos.1 (Nat.pos_of_ne_zero hc)
    rw [hup i j hf (.inr ⟨e, he, hei⟩)]
    intro h0
    rw [(hI.node j).gone h0] at he
    cases he
theorem into_folder {d : Nds} {i : Int} (h : intoErr d i = 0) : folderErr d i = 0 := by
  unfold intoErr at h
  exact Classical.byContradiction fun hf => by rw [if_pos hf] at h; exact hf h
theorem stepR_part {d : Nds} {up : Int → Int} (hI : DInv d) {at' : Int} {x : ByteArray} {fl : Bool} {n : Nat} (hn : n ≤ 40) (hx : ¬ x = ⟨#[]⟩) (hin : intoErr d at' = 0) (P : Plc × Int) (hP : partP d up at' x = P) :
    stepR d up at' x fl n = if P.2 ≠ 0 then ⟨.no, ⟨#[]⟩, P.2, n⟩ else if P.1.name ≠ ⟨#[]⟩ ∧ P.1.node ≠ 0 ∧ fl = true ∧ (nd d P.1.node).kind = 3 then (if n = 40 then ⟨.no, ⟨#[]⟩, 17, n + 1⟩ else ⟨P.1, (nd d P.1.node).data, 0, n + 1⟩) else ⟨P.1, ⟨#[]⟩, 0, n⟩ := by
  subst hP
  unfold stepR partP
  rw [if_neg (by rw [hin]; simp)]
  by_cases h1 : x = dotB
  · rw [if_pos h1, if_pos h1]
    simp [Plc.on]
  rw [if_neg h1, if_neg h1]
  by_cases h2 : x = dotsB
  · rw [if_pos h2, if_pos h2]
    simp [Plc.on]
  rw [if_neg h2, if_neg h2]
  by_cases h3 : 255 < x.size
  · rw [if_pos h3, if_pos h3]
    simp
  rw [if_neg h3, if_neg h3]
  have hf := into_folder hin
  have hlo : lookErr d at' x ≠ 0 ↔ lookOf d at' x = 0 := by
    unfold lookErr lookOf
    have hnf : ¬ folderErr d at' ≠ 0 := by simp [hf]
    rw [if_neg hnf, if_neg hnf]
    cases hg : entGet (nd d at').ents x with
    | none => simp
    | some k =>
      have hk := (hI.tgt _ _ (entGet_mem hg)).1
      have : k ≠ 0 := fun e => by
        have h4 : (x, k).2 = k := rfl
        rw [h4, e] at hk
        unfold has at hk
        rw [hI.zero] at hk
        exact hk rfl
      simp [this]
  by_cases h4 : lookOf d at' x = 0
  · rw [if_pos (.inl (hlo.2 h4))]
    simp [h4]
  have h5 : lookErr d at' x = 0 := Classical.not_not.1 (fun h => h4 (hlo.1 h))
  cases fl with
  | false => simp
  | true =>
    rw [if_neg (by simp [h5])]
    by_cases h6 : (nd d (lookOf d at' x)).kind = 3
    · have hd : dataOf d (lookOf d at' x) = (nd d (lookOf d at' x)).data := by
        unfold dataOf
        rw [if_neg (by rw [h6]; decide), if_neg (by rw [h6]; decide)]
      rw [if_neg (by simp [h6]), hd]
      by_cases h7 : n = 40
      · rw [if_pos (by omega)]
        simp [hx, h4, h6, h7]
      · rw [if_neg (by omega)]
        simp [hx, h4, h6, h7]
    · rw [if_pos h6]
      simp [h6]
theorem part_has {d : Nds} {up : Int → Int} (hI : DInv d) (hup : ∀ i u, folderErr d i = 0 → UpIs d i u → up i = u) {at' : Int} (hin : intoErr d at' = 0) (x : ByteArray) (h2 : (partP d up at' x).2 = 0) (h : (partP d up at' x).1.node ≠ 0) : has d (partP d up at' x).1.node := by
  have hf := into_folder hin
  unfold partP at *
  split
  · exact (folderErr_zero hf).1
  split
  · exact up_has hI hup _ hf
  · next h1 h3 =>
    rw [if_neg h1, if_neg h3] at h2 h
    split at h2
    · cases h2
    · next h4 =>
      rw [if_neg h4] at h ⊢
      simp only at h ⊢
      unfold lookOf at h ⊢
      rw [if_neg (by rw [hf]; simp)] at h ⊢
      cases hg : entGet (nd d at').ents x with
      | none => rw [hg] at h; exact absurd rfl h
      | some k => exact (hI.tgt _ _ (entGet_mem hg)).1
section
variable {S : Nat → Prop} {w : World} {p : Option Addr} {c : Nat} {d : Nds} {room : Int}
structure WayC (w w' : World) (bp : Nat) (p : Option Addr) (n c : Nat) (room : Int) (q : Plc) : Prop where
  keeps : Keeps NoB w w'
  lt : w.heap.size < w'.heap.size
  d0 : w'.cell? ⟨w.heap.size, 0, none⟩ = some (.slice p n c)
  d1 : w'.cell? ⟨w.heap.size, 1, none⟩ = some (.int .i64 room)
  box : C3 w' (w.heap.size + 1) (.int .i64 0) (.int .i64 0) (.string ⟨#[]⟩)
  pbox : C3 w' bp (.int .i64 q.node) (.int .i64 q.dir) (.string q.name)
theorem WayC.on {w' w2 : World} {bp n : Nat} {q : Plc} (h : WayC w w' bp p n c room q) (k : Keeps NoB w' w2) : WayC w w2 bp p n c room q :=
  ⟨h.keeps.trans k, Nat.lt_of_lt_of_le h.lt k.size, (k.cell (p := ⟨w.heap.size, 0, none⟩) h.lt (fun h => h)).trans h.d0, (k.cell (p := ⟨w.heap.size, 1, none⟩) h.lt (fun h => h)).trans h.d1, h.box.on k, h.pbox.on k⟩
theorem WayC.put {w' : World} {bp n : Nat} {q : Plc} (h : WayC w w' bp p n c room q) (hb : w.heap.size + 1 < bp) (q2 : Plc) :
    WayC w (((w'.setCell ⟨bp, 0, none⟩ (.int .i64 q2.node)).setCell ⟨bp, 1, none⟩ (.int .i64 q2.dir)).setCell ⟨bp, 2, none⟩ (.string q2.name)) bp p n c room q2 :=
  have k := keeps_put w' bp (.int .i64 q2.node) (.int .i64 q2.dir) (.string q2.name)
  ⟨h.keeps.step k (fun g hg => .inr (by omega)), Nat.lt_of_lt_of_le h.lt k.size, (k.cell (p := ⟨w.heap.size, 0, none⟩) h.lt (by show ¬ w.heap.size = bp; omega)).trans h.d0,
   (k.cell (p := ⟨w.heap.size, 1, none⟩) h.lt (by show ¬ w.heap.size = bp; omega)).trans h.d1, h.box.keep k (by omega), h.pbox.set _ _ _⟩
structure WayI (d : Nds) (up : Int → Int) (sl follow : Bool) (O : Out) (l : List ByteArray) (w wr : World) (bp : Nat) (p p1 : Option Addr) (c c1 : Nat) (room : Int) (k n0 n : Nat) (q : Plc) : Prop where
  le : k ≤ l.length
  n40 : n ≤ 40
  n0 : n0 ≤ n
  cs : WayC w wr bp p d.length c room q
  row : SlAt encStr (fun g => g ≠ bp) wr p1 c1 l
  there : k ≠ 0 → q.node ≠ 0 → has d q.node
  eq : (k ≠ 0 ∧ q.node = 0 ∧ k < l.length ∧ O = .err 12) ∨ ((k ≠ 0 → q.node = 0 → k = l.length) ∧ scan d up sl follow (l.drop k) q.node n q = O)
theorem goes_cases2 (k : Nat) (l : List ByteArray) (sl follow fl : Bool) (hk : k < l.length) (h : fl = (!(l.drop (k + 1)).isEmpty || sl || follow)) :
    ((k : Int) < (l.length : Int) - 1 ∧ fl = true) ∨ (¬ (k : Int) < (l.length : Int) - 1 ∧ sl = true ∧ fl = true) ∨ (¬ (k : Int) < (l.length : Int) - 1 ∧ sl = false ∧ fl = follow) := by
  rcases goes_cases k l sl follow fl hk h with ⟨h1, h2, h3⟩ | ⟨h1, h2, h3, h4⟩ | ⟨h1, h2, h3, h4⟩
  · refine .inl ⟨?_, h3⟩
    simp at h2
    omega
  · refine .inr (.inl ⟨?_, h3, h4⟩)
    simp at h2
    omega
  · refine .inr (.inr ⟨?_, h3, h4⟩)
    simp at h2
    omega
theorem way_next {d : Nds} {up : Int → Int} {sl follow : Bool} {O : Out} {l : List ByteArray} {k n : Nat} {q : Plc} (hlt : k < l.length) (h : (if q.node = 0 ∧ l.drop (k + 1) ≠ [] then Out.err 12 else scan d up sl follow (l.drop (k + 1)) q.node n q) = O) :
    (k + 1 ≠ 0 ∧ q.node = 0 ∧ k + 1 < l.length ∧ O = .err 12) ∨ ((k + 1 ≠ 0 → q.node = 0 → k + 1 = l.length) ∧ scan d up sl follow (l.drop (k + 1)) q.node n q = O) := by
  by_cases hz : q.node = 0 ∧ l.drop (k + 1) ≠ []
  · rw [if_pos hz] at h
    refine .inl ⟨by omega, hz.1, ?_, h.symm⟩
    have := hz.2
    simp at this
    omega
  · rw [if_neg hz] at h
    refine .inr ⟨fun _ h0 => ?_, h⟩
    refine Classical.byContradiction fun hne => hz ⟨h0, ?_⟩
    simp
    omega
theorem way_cell {w9 : World} {b g j : Nat} {x : Value} (h : w9.cell? ⟨g, j, none⟩ = some x) (hne : ¬ g = b) (u0 u1 u2 : Value) : (((w9.setCell ⟨b, 0, none⟩ u0).setCell ⟨b, 1, none⟩ u1).setCell ⟨b, 2, none⟩ u2).cell? ⟨g, j, none⟩ = some x :=
  ((keeps_put w9 b u0 u1 u2).cell (p := ⟨g, j, none⟩) (lt_of_cell h) hne).trans h
theorem way_box {w w9 : World} (h : Keeps NoB w w9) (a b c : Value) : Keeps NoB w (((w9.setCell ⟨w.heap.size + 1, 0, none⟩ a).setCell ⟨w.heap.size + 1, 1, none⟩ b).setCell ⟨w.heap.size + 1, 2, none⟩ c) :=
  h.step (keeps_put w9 (w.heap.size + 1) a b c) (fun g hg => .inr (by omega))
def findS (d : Nds) (up : Int → Int) (follow : Bool) : Nat → Int → ByteArray → Nat → Plc × Int
  | 0, _, _, _ => (.no, 17)
  | fuel + 1, from', s, n =>
    if pathErr s ≠ 0 then (.no, pathErr s)
    else if prts s = [] then (if intoErr d (if absB s then 1 else from') ≠ 0 then (.no, intoErr d (if absB s then 1 else from')) else (.on (if absB s then 1 else from'), 0))
    else match scan d up (endS s) follow (prts s) (if absB s then 1 else from') n (.on from') with
      | .fin p => endR d p (endS s)
      | .err e => (.no, e)
      | .again at' s' n' => findS d up follow fuel at' s' n'
theorem findS_succ (d : Nds) (up : Int → Int) (follow : Bool) (fuel : Nat) (from' : Int) (s : ByteArray) (n : Nat) : findS d up follow (fuel + 1) from' s n =
    if pathErr s ≠ 0 then (.no, pathErr s)
    else if prts s = [] then (if intoErr d (if absB s then 1 else from') ≠ 0 then (.no, intoErr d (if absB s then 1 else from')) else (.on (if absB s then 1 else from'), 0))
    else match scan d up (endS s) follow (prts s) (if absB s then 1 else from') n (.on from') with
      | .fin p => endR d p (endS s)
      | .err e => (.no, e)
      | .again at' s' n' => findS d up follow fuel at' s' n' := rfl
def qF (F : Plc × Int) : Plc × Int := if F.2 = 0 then F else (.no, F.2)
theorem findS_q (d : Nds) (up : Int → Int) (follow : Bool) : ∀ (fuel : Nat) (from' : Int) (s : ByteArray) (n : Nat), findS d up follow fuel from' s n = qF (findR d up follow fuel from' s n)
  | 0, _, _, _ => rfl
  | fuel + 1, from', s, n => by
    rw [findS_succ, findR_succ]
    by_cases h1 : pathErr s ≠ 0
    · rw [if_pos h1, if_pos h1]; unfold qF; rw [if_neg h1]
    rw [if_neg h1, if_neg h1]
    by_cases h2 : prts s = []
    · rw [if_pos h2, if_pos h2]
      unfold qF
      by_cases h3 : intoErr d (if absB s then 1 else from') = 0
      · rw [if_neg (fun h => h h3), if_pos h3, h3]
      · rw [if_pos h3, if_neg h3]
    rw [if_neg h2, if_neg h2]
    cases scan d up (endS s) follow (prts s) (if absB s then 1 else from') n (.on from') with
    | fin q =>
      show endR d q (endS s) = qF (endR d q (endS s))
      unfold endR qF
      split
      · rfl
      · split
        · rfl
        · rfl
    | err e =>
      show (Plc.no, e) = qF (Plc.no, e)
      unfold qF
      split <;> rfl
    | again a2 s2 n2 => exact findS_q d up follow fuel a2 s2 n2
def WayOk (d : Nds) (up : Int → Int) (room : Int) (follow : Bool) (fuel : Nat) : Prop := ∀ (S : Nat → Prop) (w : World) (p : Option Addr) (c : Nat), RefAt S w p c d → ∀ (from' : Int) (s : ByteArray) (n : Nat), s.size ≤ 4294967280 → n ≤ 40 → 41 ≤ n + fuel →
  Calls Tryz.prog 180 #[refV p c d room, .int .i64 from', .string s, .bool follow, .int .i64 n] w fun e w' =>
    e = .returned (.tuple #[plcV (findS d up follow fuel from' s n).1, .int .i64 (findS d up follow fuel from' s n).2]) ∧ Keeps NoB w w'
end
end Go.Proofs.YtijbhmledmnifaaGreatDoor
