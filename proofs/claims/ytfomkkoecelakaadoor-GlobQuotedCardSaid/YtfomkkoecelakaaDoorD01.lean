/-
  Variables of several cells, small laws of memory, for seats without a disk.
-/
import Derived.Test.YtfomkkoecelakaaDoorB01
import Derived.Test.YtfomkkoecelakaaDoorB23
import Derived.Test.YtfomkkoecelakaaDoorB03
import Derived.Test.YtfomkkoecelakaaDoorB04
import Derived.Lib.ConvBytes
import Derived.Laws.IdiomStrings
import Derived.Deep.Cut
import Derived.Deep.QuietTactic

set_option linter.unusedSimpArgs false
set_option linter.unusedVariables false

set_option maxRecDepth 100000
namespace Go.Proofs.YtfomkkoecelakaaDoor
open Go Go.RowKit

theorem elemOf {α : Type} {P : Program} {E : Enc α} {t e : TypeId} {z : α} {bytes : Nat} (zv : Value) (hu : P.underlying t = some (.slice e))
    (h : (P.info? e).map (fun i => (i.zero, i.size, i.bytes)) = some (some zv, E.k, bytes)) (hz : zv.cells.toList = E.enc z) : ElemT P E t e z bytes := by
  refine ⟨hu, ?_⟩
  cases hi : P.info? e with
  | none => rw [hi] at h; cases h
  | some i => rw [hi] at h; simp at h; exact ⟨i, rfl, h.2.1, h.2.2, zv, h.1, hz⟩

theorem kset (w : World) (p : Addr) (u : Value) : Keeps (fun x => x = p.block) w (w.setCell p u) := Keeps.setCell (p := p) (Keeps.refl (fun x => x = p.block) w) (Or.inl rfl) u

theorem ba_eq {a b : ByteArray} (h : a.data.toList = b.data.toList) : a = b := ByteArray.ext (Array.toList_inj.1 h)

theorem xell_set {w : World} {g j k : Nat} {v u : Value} (h : w.cell? ⟨g, j, none⟩ = some v) : (w.setCell ⟨g, k, none⟩ u).cell? ⟨g, j, none⟩ = some (if j = k then u else v) := by
  by_cases e : j = k
  · subst e; rw [if_pos rfl]; exact World.cell?_setCell_same _ _ _ h
  · rw [if_neg e, World.cell?_setCell_other _ _ _ _ (by simp [e])]; exact h
theorem xrozen_set (w : World) (p q : Addr) (u : Value) : (w.setCell p u).frozen? q = w.frozen? q := by simp

/-- A variable of several cells. -/
structure Bk (w : World) (B : Nat) (l : List Value) : Prop where
  lt : B < w.heap.size
  cell : ∀ i v, l[i]? = some v → w.cell? ⟨B, i, none⟩ = some v
  fz : ∀ j, w.frozen? ⟨B, j, none⟩ = false
section
variable {w w' : World} {B : Nat} {l : List Value}
theorem Bk.new {cs : Array Value} {T : TypeId} (k : Keeps NoB (w.alloc (.cells cs T)) w') : Bk w' w.heap.size cs.toList := by
  have hn := heap_alloc_new w (.cells cs T)
  have h4 := (k.block w.heap.size (by simp) (fun h => h)).trans hn
  refine ⟨Nat.lt_of_lt_of_le (by simp) k.size, fun i v hv => ?_, fun j => frozen_of_row w' _ j _ T h4⟩
  rw [cell_of_row w' _ i _ T (0, 0) h4, ← Array.getElem?_toList]
  exact hv
theorem Bk.keep {G : Nat → Prop} (h : Bk w B l) (k : Keeps G w w') (hB : ¬ G B) : Bk w' B l :=
  ⟨Nat.lt_of_lt_of_le h.lt k.size, fun i v hv => (k.cell (p := ⟨B, i, none⟩) h.lt hB).trans (h.cell i v hv), fun j => (k.frozen (p := ⟨B, j, none⟩) h.lt hB).trans (h.fz j)⟩
theorem Bk.on (h : Bk w B l) (k : Keeps NoB w w') : Bk w' B l := h.keep k (fun h => h)
theorem Bk.put (h : Bk w B l) (i : Nat) (v : Value) : Bk (w.setCell ⟨B, i, none⟩ v) B (l.set i v) := by
  refine ⟨by simpa using h.lt, fun j u hu => ?_, fun j => (xrozen_set _ _ _ _).trans (h.fz j)⟩
  rw [List.getElem?_set] at hu
  split at hu
  · next e =>
    subst e
    split at hu
    · next hl =>
      cases hu
      have := xell_set (k := i) (u := v) (h.cell i _ (List.getElem?_eq_getElem hl))
      rw [if_pos rfl] at this
      exact this
    · cases hu
  · next e =>
    have := xell_set (k := i) (u := v) (h.cell j u hu)
    rw [if_neg (fun x => e x.symm)] at this
    exact this
end
end Go.Proofs.YtfomkkoecelakaaDoor

/-
  append(v, x...), whatever x is: a slice or a string.
-/
set_option maxRecDepth 100000
namespace Go.Proofs.YtfomkkoecelakaaDoor
open Go Go.RowKit

section
variable {α : Type} {E : Enc α} {P : Program} {t e : TypeId} {z : α} {bytes : Nat} {S : Nat → Prop} {w : World}

/-- append(v, x...): v owned; x yields the elements m. -/
theorem run_appendS (T : ElemT P E t e z bytes) (ty tx : TypeId) {v x : Value} {l m : List α} (ho : Own E e S w v l) (hSrc : Src P E.k tx x m.length (m.flatMap E.enc) w)
    (hS : S w.heap.size) (h63 : l.length + m.length ≤ maxLen) (hb : (l.length + m.length) * bytes ≤ 140737488355328) :
    ∃ v' w', (Builtin.append_ #[t, tx] ty #[v, x]).run P w = .ok v' w' ∧ Own E e S w' v' (l ++ m) ∧ Keeps (fun g => v.ownBlock = some g) w w' ∧
      (∀ g, v'.ownBlock = some g → v.ownBlock = some g ∨ w.heap.size ≤ g) := by
  obtain ⟨i, hi, hik, hib, zv, hz, hzc⟩ := T.info
  rw [← hik] at hSrc
  have h63' : ((l.length + m.length : Nat) : Int) ≤ 9223372036854775807 := by simp only [maxLen] at h63; omega
  have hKr : ∀ cs : Array Value, Keeps (fun g => v.ownBlock = some g) w (w.drew.alloc (.cells cs e)) := fun cs => ((Keeps.refl _ w).drew).alloc _
  have hgrow : ∀ base sLen sCap, l.length = sLen → sCap < sLen + m.length →
      (Builtin.firstCells i.size sLen (.slice base sLen sCap)).run P w.drew = .ok (l.flatMap E.enc).toArray w.drew →
      ∃ v' w', (Builtin.append_ #[t, tx] ty #[.slice base sLen sCap, x]).run P w = .ok v' w' ∧ Own E e S w' v' (l ++ m) ∧ Keeps (fun g => v.ownBlock = some g) w w' ∧
        (∀ g, v'.ownBlock = some g → v.ownBlock = some g ∨ w.heap.size ≤ g) := by
    intro base sLen sCap hl hlt hold
    subst hl
    have hr := run_append_grow_src (P := P) w t tx ty e i zv T.under hi hz base l.length sCap (l.flatMap E.enc) hold _ m.length _ hSrc hlt h63' (growslice_fits hlt (by rw [hib]; exact hb))
    have hge := grownCap_ge w (l.length + m.length) sCap e
    have hle := grownCap_le_maxLen w (l.length + m.length) sCap e h63
    refine ⟨_, _, hr, ?_, hKr _, fun g hg => by simp [Value.ownBlock] at hg; right; omega⟩
    have hfr := own_fresh (E := E) (e := e) (S := S) (w := w.drew) (l ++ m) (List.replicate (grownCap w (l.length + m.length) sCap e - (l.length + m.length)) z) hS
      (by simp; omega) ((l.flatMap E.enc ++ m.flatMap E.enc).toArray ++ Builtin.zeroCells zv.cells (grownCap w (l.length + m.length) sCap e - (l.length + m.length)))
      (by simp [zeroCells_flat (E := E) zv.cells _ hzc])
    rw [show (l ++ m).length + (List.replicate (grownCap w (l.length + m.length) sCap e - (l.length + m.length)) z).length = grownCap w (l.length + m.length) sCap e by simp; omega] at hfr
    rw [show (l ++ m).length = l.length + m.length by simp] at hfr
    exact hfr
  rcases ho.cases with ⟨rfl, rfl⟩ | ⟨g, cap, cur, rfl, hSg, hg, hcap, hmax, hsz, htk⟩
  · by_cases h0 : m.length = 0
    · have : m = [] := List.eq_nil_of_length_eq_zero h0
      subst this
      refine ⟨.slice none 0 0, w, ?_, Own.nil E e S w, Keeps.refl _ w, fun g hg => .inl hg⟩
      have h1 := hSrc.len w
      have h2 := hSrc.cells
      simp only [List.length_nil, List.flatMap_nil] at h1 h2 ⊢
      rcases hSrc.kind with ⟨e', hk⟩ | hk <;> simp [Builtin.append_, run_underlying T.under, run_underlying hk, sizeOf, typeInfo, hi, h1, h2]
    · exact hgrow none 0 0 rfl (by simp; omega) (run_firstCells_none _ _ _ _ _)
  · by_cases hroom : l.length + m.length ≤ cap
    · have hr := run_append_room_src (P := P) w t tx ty e i T.under hi g 0 l.length cap _ m.length (m.flatMap E.enc) hSrc hroom
        (fun j hj => by
          rw [E.flat_len] at hj
          have : (l.length + m.length) * E.k ≤ cap * E.k := Nat.mul_le_mul_right _ hroom
          rw [Nat.add_mul] at this
          rw [cell_of_row w g _ cur e (0, 0) hg, Array.getElem?_eq_getElem (by rw [hik, hsz]; omega)]; rfl)
        (fun j _ => frozen_of_row w g _ cur e hg)
      have hfit : l.length * E.k + (m.flatMap E.enc).length ≤ cur.size := by
        have : (l.length + m.length) * E.k ≤ cap * E.k := Nat.mul_le_mul_right _ hroom
        rw [Nat.add_mul] at this; rw [E.flat_len, hsz]; omega
      have hst1 := run_storeCells_at P g (l.length * E.k) e (m.flatMap E.enc) 0 cur w hg (by simpa using hfit) (E.flat_one m)
      have hst2 := run_storeCells_cells (P := P) g (l.length * E.k) (m.flatMap E.enc) 0 w
        (fun j hj => by rw [cell_of_row w g _ cur e (0, 0) hg, Array.getElem?_eq_getElem (by omega)]; rfl) (fun j _ => frozen_of_row w g _ cur e hg) (E.flat_one m)
      have hw : w.setCells g (0 + l.length * i.size) (m.flatMap E.enc) = w.setRow g (cur.toList.take (l.length * E.k) ++ m.flatMap E.enc ++ cur.toList.drop (l.length * E.k + (m.flatMap E.enc).length)).toArray := by
        rw [hik, Nat.zero_add]
        rw [hst2] at hst1
        simp only [Nat.add_zero] at hst1
        injection hst1
      rw [hw] at hr
      refine ⟨_, _, hr, ?_, ⟨rfl, rfl, rfl, by simp, fun k _ hk => setRow_other w g k _ (fun e => hk (by simp [Value.ownBlock, e]))⟩, fun g' hg' => .inl hg'⟩
      rw [show l.length + m.length = (l ++ m).length by simp]
      refine Own.mk hSg (setRow_heap w g cur _ e _ hg) (by simpa using hroom) hmax ?_ ?_
      · have hL : cur.toList.length = cap * E.k := by rw [Array.length_toList]; exact hsz
        rw [List.size_toArray, List.length_append, List.length_append, List.length_take, List.length_drop]; omega
      · rw [htk, ← E.flat_len, List.flatMap_append]
        simp only [List.append_assoc]
        rw [← List.append_assoc]
        exact List.take_left
    · refine hgrow _ _ _ rfl (by omega) (run_firstCells_some w.drew i.size l.length ⟨g, 0, none⟩ l.length cap _ (by rw [E.flat_len, hik]) (fun j u hu => ?_))
      rw [add_lit, World.cell?_drew, cell_of_row w g _ cur e (0, 0) hg, Nat.zero_add, ← hu, ← htk, List.getElem?_take, if_pos (by have := (List.getElem?_eq_some_iff.1 hu).1; rw [E.flat_len] at this; exact this)]
      simp

end

/-- append(v, x...) in a walk, x a string. -/
theorem wpl_appendS {α : Type} {E : Enc α} {P : Program} {t tx e : TypeId} {z : α} {bytes : Nat} {S : Nat → Prop} {w : World} {ops : Array Oper} {Q : Exit → Act → World → Prop} {rest : List Oper} {o : Oper} {a : Act}
    (hgd : o.guard = none) (s x : Operand) (ho : o.op = .call { callee := .builtin .append, args := #[s, x], argTypes := #[t, tx] }) (T : ElemT P E t e z bytes)
    {v xv : Value} {l m : List α} (hown : Own E e S w v l) (hsl : Src P E.k tx xv m.length (m.flatMap E.enc) w) (hs : a.eval s = v) (hx : a.eval x = xv) (hS : S w.heap.size)
    (h63 : l.length + m.length ≤ maxLen) (hb : (l.length + m.length) * bytes ≤ 140737488355328)
    (h : ∀ v' w', Own E e S w' v' (l ++ m) → Keeps (fun g => v.ownBlock = some g) w w' → (∀ g, v'.ownBlock = some g → v.ownBlock = some g ∨ w.heap.size ≤ g) → wpList P ops Q rest (a.put o.dst v') w') :
    wpList P ops Q (o :: rest) a w := by
  obtain ⟨v', w', hr, h1, h2, h3⟩ := run_appendS T o.type tx hown hsl hS h63 hb
  exact Lib.wpList_append_run w hgd s x t tx ho v xv hs hx v' w' hr (h v' w' h1 h2 h3)

end Go.Proofs.YtfomkkoecelakaaDoor

/-
  Layer 16, plain: which texts are a pattern's, and how the program finds it out. No program in sight.
-/
set_option maxRecDepth 100000
namespace Go.Proofs.YtfomkkoecelakaaDoor

/-- A part of a pattern: a byte (98), any byte (63), any bytes (42), a byte of a set (91). -/
structure Pt where
  kind : UInt8
  b : UInt8
  neg : Bool
  set : List (UInt8 × UInt8)

def inSet (s : List (UInt8 × UInt8)) (c : UInt8) : Bool := s.any fun x => decide (x.1 ≤ c) && decide (c ≤ x.2)
def fitsP (p : Pt) (c : UInt8) : Bool := if p.kind = 98 then decide (p.b = c) else if p.kind = 63 then true else if inSet p.set c then !p.neg else p.neg

/-- A text is a pattern's. -/
def Mt : List Pt → List UInt8 → Prop
  | [], s => s = []
  | p :: l, s => if p.kind = 42 then ∃ n, n ≤ s.length ∧ Mt l (s.drop n) else ∃ c t, s = c :: t ∧ fitsP p c = true ∧ Mt l t

def MtAt (l : List Pt) (s : List UInt8) (k i : Nat) : Prop := Mt (l.drop k) (s.drop i)

section
variable {l : List Pt} {s : List UInt8}

theorem mtAt_end (i : Nat) : MtAt l s l.length i ↔ s.length ≤ i := by
  unfold MtAt
  rw [List.drop_length]
  show s.drop i = [] ↔ _
  rw [List.drop_eq_nil_iff]
theorem mtAt_star {k i : Nat} {p : Pt} (hp : l[k]? = some p) (hk : p.kind = 42) (hi : i ≤ s.length) : MtAt l s k i ↔ ∃ j, i ≤ j ∧ j ≤ s.length ∧ MtAt l s (k + 1) j := by
  obtain ⟨h1, h2⟩ := List.getElem?_eq_some_iff.1 hp
  unfold MtAt
  rw [List.drop_eq_getElem_cons h1, h2]
  show (if p.kind = 42 then _ else _) ↔ _
  rw [if_pos hk]
  constructor
  · rintro ⟨n, hn, hm⟩
    rw [List.length_drop] at hn
    rw [List.drop_drop] at hm
    exact ⟨i + n, by omega, by omega, hm⟩
  · rintro ⟨j, h3, h4, hm⟩
    refine ⟨j - i, by rw [List.length_drop]; omega, ?_⟩
    rw [List.drop_drop, show i + (j - i) = j by omega]
    exact hm
theorem mtAt_one {k i : Nat} {p : Pt} (hp : l[k]? = some p) (hk : p.kind ≠ 42) : MtAt l s k i ↔ ∃ c, s[i]? = some c ∧ fitsP p c = true ∧ MtAt l s (k + 1) (i + 1) := by
  obtain ⟨h1, h2⟩ := List.getElem?_eq_some_iff.1 hp
  unfold MtAt
  rw [List.drop_eq_getElem_cons h1, h2]
  show (if p.kind = 42 then _ else _) ↔ _
  rw [if_neg hk]
  constructor
  · rintro ⟨c, t, h3, h4, hm⟩
    have hi : i < s.length := by
      rcases Nat.lt_or_ge i s.length with h | h
      · exact h
      · rw [List.drop_of_length_le h] at h3; cases h3
    rw [List.drop_eq_getElem_cons hi] at h3
    injection h3 with h5 h6
    exact ⟨c, by rw [List.getElem?_eq_getElem hi, h5], h4, by rw [h6]; exact hm⟩
  · rintro ⟨c, h3, h4, hm⟩
    obtain ⟨hi, h5⟩ := List.getElem?_eq_some_iff.1 h3
    exact ⟨c, s.drop (i + 1), by rw [List.drop_eq_getElem_cons hi, h5], h4, hm⟩

/-- Parts that are no stars take a byte each. -/
theorem mtAt_seg {a : Nat} : ∀ (m : Nat) {j : Nat}, (∀ t, a ≤ t → t < a + m → ∃ p, l[t]? = some p ∧ p.kind ≠ 42) → j ≤ s.length → MtAt l s a j → j + m ≤ s.length ∧ MtAt l s (a + m) (j + m)
  | 0, j, _, hj, h => ⟨hj, h⟩
  | m + 1, j, hs, hj, h => by
    obtain ⟨h1, h2⟩ := mtAt_seg m (fun t ht ht2 => hs t ht (by omega)) hj h
    obtain ⟨p, hp, hk⟩ := hs (a + m) (by omega) (by omega)
    obtain ⟨c, h3, _, h4⟩ := (mtAt_one hp hk).1 h2
    have := (List.getElem?_eq_some_iff.1 h3).1
    exact ⟨by omega, h4⟩

/-- What holds in the program's search: the way from here, or from a byte further behind the last star. -/
structure MI (l : List Pt) (s : List UInt8) (i k : Nat) (star : Int) (mark : Nat) : Prop where
  ile : i ≤ s.length
  kle : k ≤ l.length
  ans : Mt l s ↔ (MtAt l s k i ∨ (0 ≤ star ∧ ∃ j, mark < j ∧ j ≤ s.length ∧ MtAt l s (star.toNat + 1) j))
  lo : -1 ≤ star
  mle : (mark : Int) ≤ i
  seg : 0 ≤ star → star.toNat < k ∧ (i : Int) - mark = k - star - 1 ∧ ∀ t, star.toNat + 1 ≤ t → t < k → ∃ p, l[t]? = some p ∧ p.kind ≠ 42

theorem MI.start (l : List Pt) (s : List UInt8) : MI l s 0 0 (-1) 0 :=
  ⟨Nat.zero_le _, Nat.zero_le _, by
    constructor
    · intro h; exact .inl h
    · rintro (h | ⟨h, _⟩)
      · exact h
      · omega, by omega, by omega, fun h => by omega⟩

variable {i k mark : Nat} {star : Int}
theorem MI.onStar (h : MI l s i k star mark) {p : Pt} (hp : l[k]? = some p) (hk : p.kind = 42) : MI l s i (k + 1) (k : Int) i := by
  have hkl := (List.getElem?_eq_some_iff.1 hp).1
  refine ⟨h.ile, by omega, ?_, by omega, by omega, fun _ => ⟨by omega, by omega, fun t h1 h2 => by omega⟩⟩
  rw [h.ans, mtAt_star hp hk h.ile]
  simp only [Int.toNat_natCast]
  constructor
  · rintro (⟨j, h1, h2, h3⟩ | ⟨h0, j, h1, h2, h3⟩)
    · by_cases e : j = i
      · subst e; exact .inl h3
      · exact .inr ⟨by omega, j, by omega, h2, h3⟩
    · obtain ⟨g1, g2, g3⟩ := h.seg h0
      obtain ⟨q1, q2⟩ := mtAt_seg (a := star.toNat + 1) (k - (star.toNat + 1)) (fun t t1 t2 => g3 t t1 (by omega)) h2 h3
      rw [show star.toNat + 1 + (k - (star.toNat + 1)) = k by omega] at q2
      obtain ⟨j2, r1, r2, r3⟩ := (mtAt_star hp hk q1).1 q2
      exact .inr ⟨by omega, j2, by omega, r2, r3⟩
  · rintro (h1 | ⟨_, j, h1, h2, h3⟩)
    · exact .inl ⟨i, Nat.le_refl _, h.ile, h1⟩
    · exact .inl ⟨j, by omega, h2, h3⟩
theorem MI.onByte (h : MI l s i k star mark) {p : Pt} {c : UInt8} (hp : l[k]? = some p) (hk : p.kind ≠ 42) (hc : s[i]? = some c) (hf : fitsP p c = true) : MI l s (i + 1) (k + 1) star mark := by
  have hkl := (List.getElem?_eq_some_iff.1 hp).1
  have hil := (List.getElem?_eq_some_iff.1 hc).1
  refine ⟨by omega, by omega, ?_, h.lo, by have := h.mle; omega, fun h0 => ?_⟩
  · rw [h.ans, mtAt_one hp hk]
    constructor
    · rintro (⟨_, _, _, h3⟩ | h3)
      · exact .inl h3
      · exact .inr h3
    · rintro (h3 | h3)
      · exact .inl ⟨c, hc, hf, h3⟩
      · exact .inr h3
  · obtain ⟨g1, g2, g3⟩ := h.seg h0
    refine ⟨by omega, by omega, fun t t1 t2 => ?_⟩
    by_cases e : t = k
    · subst e; exact ⟨p, hp, hk⟩
    · exact g3 t t1 (by omega)
theorem MI.done (h : MI l s i k star mark) (hi : i = s.length) (hk : k = l.length) : Mt l s := by
  subst hi; subst hk
  exact h.ans.2 (.inl ((mtAt_end _).2 (Nat.le_refl _)))
/-- It goes on nowhere from here. -/
theorem MI.stuck (h : MI l s i k star mark) (h1 : ∀ p, l[k]? = some p → p.kind ≠ 42) (h2 : ∀ p c, l[k]? = some p → s[i]? = some c → fitsP p c = false) (h3 : ¬ (i = s.length ∧ k = l.length)) : ¬ MtAt l s k i := by
  intro hm
  by_cases hk : k = l.length
  · subst hk
    have := (mtAt_end i).1 hm
    have := h.ile
    exact h3 ⟨by omega, rfl⟩
  · have := h.kle
    have hp := List.getElem?_eq_getElem (l := l) (i := k) (by omega)
    obtain ⟨c, hc, hf, _⟩ := (mtAt_one hp (h1 _ hp)).1 hm
    rw [h2 _ _ hp hc] at hf
    cases hf
theorem MI.back (h : MI l s i k star mark) (hn : ¬ MtAt l s k i) (h0 : 0 ≤ star) (hm : mark < s.length) : MI l s (mark + 1) (star.toNat + 1) star (mark + 1) := by
  obtain ⟨g1, g2, g3⟩ := h.seg h0
  have hk := h.kle
  refine ⟨by omega, by omega, ?_, h.lo, by omega, fun _ => ⟨by omega, by omega, fun t t1 t2 => by omega⟩⟩
  rw [h.ans]
  constructor
  · rintro (h3 | ⟨_, j, j1, j2, j3⟩)
    · exact absurd h3 hn
    · by_cases e : j = mark + 1
      · subst e; exact .inl j3
      · exact .inr ⟨h0, j, by omega, j2, j3⟩
  · rintro (h3 | ⟨_, j, j1, j2, j3⟩)
    · exact .inr ⟨h0, mark + 1, by omega, by omega, h3⟩
    · exact .inr ⟨h0, j, by omega, j2, j3⟩
theorem MI.fail (h : MI l s i k star mark) (hn : ¬ MtAt l s k i) (h0 : ¬ (0 ≤ star ∧ mark < s.length)) : ¬ Mt l s := by
  rw [h.ans]
  rintro (h3 | ⟨h1, j, j1, j2, _⟩)
  · exact hn h3
  · exact h0 ⟨h1, by omega⟩
end

/-- How far the search has come. -/
def muM (L N k : Nat) (star : Int) (mark : Nat) : Nat := (((L : Int) - star).toNat + (N - mark)) * (L + 2) + (L - k)
theorem mu_star {L N k i mark : Nat} {star : Int} (h1 : star < k) (h2 : k < L) (h3 : mark ≤ i) : muM L N (k + 1) (k : Int) i < muM L N k star mark := by
  unfold muM
  have : (((L : Int) - k).toNat + (N - i)) + 1 ≤ (((L : Int) - star).toNat + (N - mark)) := by omega
  have := Nat.mul_le_mul_right (L + 2) this
  rw [Nat.add_mul] at this
  omega
theorem mu_byte {L N k mark : Nat} {star : Int} (h2 : k < L) : muM L N (k + 1) star mark < muM L N k star mark := by
  unfold muM; omega
theorem mu_back {L N k mark : Nat} {star : Int} (h1 : 0 ≤ star) (h2 : mark < N) : muM L N (star.toNat + 1) star (mark + 1) < muM L N k star mark := by
  unfold muM
  have : (((L : Int) - star).toNat + (N - (mark + 1))) + 1 ≤ (((L : Int) - star).toNat + (N - mark)) := by omega
  have := Nat.mul_le_mul_right (L + 2) this
  rw [Nat.add_mul] at this
  omega

end Go.Proofs.YtfomkkoecelakaaDoor

/-
  Layer 16: contracts of package pat: signs.
-/
set_option maxRecDepth 100000
set_option maxHeartbeats 4000000
namespace Go.Proofs.YtfomkkoecelakaaDoor
open Go Go.RowKit

def encPb : Enc UInt8 where
  enc := fun c => [.int .u8 (c.toNat : Int)]
  k := 1
  pos := by decide
  len := fun _ => rfl
  one := fun x v hv => by simp at hv; subst hv; rfl

/-- A piece: its text, is it quoted. -/
def encPc : Enc (ByteArray × Bool) where
  enc := fun c => [.string c.1, .bool c.2]
  k := 2
  pos := by decide
  len := fun _ => rfl
  one := fun x v hv => by simp at hv; rcases hv with rfl | rfl <;> rfl
/-- A sign: a byte, is it quoted. -/
def encSg : Enc (UInt8 × Bool) where
  enc := fun c => [.int .u8 (c.1.toNat : Int), .bool c.2]
  k := 2
  pos := by decide
  len := fun _ => rfl
  one := fun x v hv => by simp at hv; rcases hv with rfl | rfl <;> rfl
theorem tSg : ElemT Tryd.prog encSg 111 114 (0, false) 2 :=
  elemOf (.agg #[.int .u8 0, .bool false]) Tryd.underlying111 (by kernel_rfl) rfl

/-- The row that []byte(s) lays. -/
theorem pconv_sl (w : World) (s : ByteArray) (hs : s.size ≤ maxLen) :
    SlAt encPb (fun g => g = w.heap.size) (Lib.bytesWorld w 5 s) (some ⟨w.heap.size, 0, none⟩) (grownCap w s.size 0 5) s.data.toList ∧ Keeps NoB w (Lib.bytesWorld w 5 s) := by
  have hge : s.size ≤ grownCap w s.size 0 5 := grownCap_ge w s.size 0 5
  have hle := grownCap_le_maxLen w s.size 0 5 hs
  have hsize := Lib.bytesWorld_size w 5 s
  have hl : s.data.toList.length = s.size := len_data s
  refine ⟨⟨by rw [hl]; exact hge, hle, (fun h => by cases h), (fun _ a ha => by cases ha; rfl), fun _ => ⟨w.heap.size, 0, rfl, rfl, by rw [hsize]; omega, fun j hj => ?_⟩⟩, ?_⟩
  · have hj2 : j < s.data.toList.length := by simpa [encPb] using hj
    rw [Nat.zero_add, Lib.bytesWorld_cell w 5 s j hj2]
    have := Enc.flat_get encPb s.data.toList j 0 (by decide)
    simp only [show encPb.k = 1 from rfl, Nat.mul_one, Nat.add_zero] at this
    rw [this, List.getElem?_eq_getElem hj2]
    simp [List.getD, List.getElem?_eq_getElem hj2, encPb]
  · refine ⟨?_, ?_, ?_, by omega, fun k hk _ => Lib.bytesWorld_at_old w 5 s k hk⟩
    · simp [Lib.bytesWorld, World.freeze]; rfl
    · simp [Lib.bytesWorld, World.freeze]
    · simp [Lib.bytesWorld, World.freeze]; rfl

theorem SlAt.pc {S : Nat → Prop} {w : World} {p : Option Addr} {c : Nat} {l : List (ByteArray × Bool)} (h : SlAt encPc S w p c l) {i : Nat} {x : ByteArray × Bool} (hi : l[i]? = some x) :
    ∃ g off, p = some ⟨g, off, none⟩ ∧ S g ∧ g < w.heap.size ∧ w.cell? ⟨g, off + i * 2, none⟩ = some (.string x.1) ∧ w.cell? ⟨g, off + i * 2 + 1, none⟩ = some (.bool x.2) := by
  obtain ⟨g, off, hp, hS, hg, hc⟩ := h.at hi
  exact ⟨g, off, hp, hS, hg, hc 0 _ rfl, by have := hc 1 _ rfl; rwa [← Nat.add_assoc] at this⟩
theorem SlAt.sg {S : Nat → Prop} {w : World} {p : Option Addr} {c : Nat} {l : List (UInt8 × Bool)} (h : SlAt encSg S w p c l) {i : Nat} {x : UInt8 × Bool} (hi : l[i]? = some x) :
    ∃ g off, p = some ⟨g, off, none⟩ ∧ S g ∧ g < w.heap.size ∧ w.cell? ⟨g, off + i * 2, none⟩ = some (.int .u8 (x.1.toNat : Int)) ∧ w.cell? ⟨g, off + i * 2 + 1, none⟩ = some (.bool x.2) := by
  obtain ⟨g, off, hp, hS, hg, hc⟩ := h.at hi
  exact ⟨g, off, hp, hS, hg, hc 0 _ rfl, by have := hc 1 _ rfl; rwa [← Nat.add_assoc] at this⟩
theorem SlAt.pb {S : Nat → Prop} {w : World} {p : Option Addr} {c : Nat} {l : List UInt8} (h : SlAt encPb S w p c l) {i : Nat} {x : UInt8} (hi : l[i]? = some x) :
    ∃ g off, p = some ⟨g, off, none⟩ ∧ S g ∧ g < w.heap.size ∧ w.cell? ⟨g, off + i, none⟩ = some (.int .u8 (x.toNat : Int)) := by
  obtain ⟨g, off, hp, hS, hg, hc⟩ := h.at hi
  have := hc 0 _ rfl
  rw [show encPb.k = 1 from rfl, Nat.mul_one, Nat.add_zero] at this
  exact ⟨g, off, hp, hS, hg, this⟩

def sgP (p : ByteArray × Bool) : List (UInt8 × Bool) := p.1.data.toList.map fun c => (c, p.2)
def sgL (pl : List (ByteArray × Bool)) : List (UInt8 × Bool) := pl.flatMap sgP
theorem sgL_len : ∀ (pl : List (ByteArray × Bool)) (n : Nat), (∀ p ∈ pl, p.1.size ≤ n) → (sgL pl).length ≤ pl.length * n
  | [], n, _ => by simp [sgL]
  | p :: pl, n, h => by
    have h1 := sgL_len pl n (fun q hq => h q (List.mem_cons_of_mem _ hq))
    have h2 := h p List.mem_cons_self
    have h3 : (sgP p).length = p.1.size := by unfold sgP; rw [List.length_map, len_data]
    unfold sgL at h1 ⊢
    rw [List.flatMap_cons, List.length_append, List.length_cons, Nat.succ_mul]
    omega
theorem tk_next {α : Type} {l : List α} {k : Nat} {c : α} (h : l[k]? = some c) : l.take (k + 1) = l.take k ++ [c] := by
  obtain ⟨h1, h2⟩ := List.getElem?_eq_some_iff.1 h
  rw [List.take_succ_eq_append_getElem h1, h2]

theorem signs_any {S1 : Nat → Prop} {w : World} {pa : Option Addr} {ca : Nat} {pl : List (ByteArray × Bool)} (ha : SlAt encPc S1 w pa ca pl) (hn : pl.length ≤ 10000) (hz : ∀ p ∈ pl, p.1.size ≤ 10000) :
    Calls Tryd.prog 52 #[.slice pa pl.length ca] w fun e w' => ∃ v, e = .returned v ∧ Own encSg 114 (fun g => w.heap.size ≤ g) w' v (sgL pl) ∧ Keeps NoB w w' := by
  have hcap := ha.cap
  have hmax := ha.max
  unfold maxLen at hmax
  have HA := Lib.hid ha
  have HZ := Lib.hid hz
  have hconv := fun wx (s : ByteArray) => Lib.run_convert_string_bytes (P := Tryd.prog) wx 9 76 5 s Tryd.underlying9 Tryd.underlying76 Tryd.underlying5
  clear ha hz
  go_enter Tryd.func52, Tryd.ntmps52
  go_wp2
  go_loopw [3, 10] (fun v i wr => ∃ k : Nat, k ≤ pl.length ∧ i = .int .i64 k ∧ Own encSg 114 (fun g => w.heap.size ≤ g) wr v (sgL (pl.take k)) ∧ Keeps NoB w wr) (fun _ i _ => pl.length + 1 - (intOf i).toNat)
  case atStart => exact ⟨0, Nat.zero_le _, rfl, Own.nil _ _ _ _, Keeps.refl _ _⟩
  case round =>
    obtain ⟨k, hk, rfl, hown, hkp⟩ := hrel
    have HW := Lib.hid hown
    have HK := Lib.hid hkp
    have hsz := hkp.size
    clear hown hkp
    by_cases hlt : k < pl.length
    · have hlz : (k : Int) < (pl.length : Int) := by omega
      obtain ⟨p, hp⟩ : ∃ p, pl[k]? = some p := ⟨_, List.getElem?_eq_getElem hlt⟩
      have hps := HZ.out p (List.mem_of_getElem? hp)
      obtain ⟨g, off, rfl, _, _, t0, t1⟩ := (HA.out.keepN HK.out).pc hp
      obtain ⟨s, q⟩ := p
      simp only at t0 t1 hps
      have HN := Lib.hid (tk_next hp)
      clear hp
      go_upto_region 6 with fail
      have hB0 := Bk.new (Keeps.refl NoB (wr.alloc (.cells #[.string s, .bool q] 37)))
      obtain ⟨hrow, hkr⟩ := pconv_sl (wr.alloc (.cells #[.string s, .bool q] 37)) s (by unfold maxLen; omega)
      rw [show (wr.alloc (.cells #[.string s, .bool q] 37)).heap.size = wr.heap.size + 1 by simp] at hrow
      have HBx := Lib.hid (hB0.on hkr)
      have HRow := Lib.hid hrow
      have hk0 : Keeps NoB wr (Lib.bytesWorld (wr.alloc (.cells #[.string s, .bool q] 37)) 5 s) := ((Keeps.refl NoB wr).alloc _).trans hkr
      have HK0 := Lib.hid (HK.out.trans hk0)
      have hs2 : wr.heap.size + 2 ≤ (Lib.bytesWorld (wr.alloc (.cells #[.string s, .bool q] 37)) 5 s).heap.size := by rw [Lib.bytesWorld_size]; simp
      have HW0 : Hid (Own encSg 114 (fun g => w.heap.size ≤ g ∧ g ≠ wr.heap.size ∧ g ≠ wr.heap.size + 1) (Lib.bytesWorld (wr.alloc (.cells #[.string s, .bool q] 37)) 5 s) u3 (sgL (pl.take k))) :=
        Lib.hid ((HW.out.keep hk0 (fun _ _ h => h)).mono (fun g hg h => ⟨h, by have := HW.out.lt g hg; omega, by have := HW.out.lt g hg; omega⟩))
      clear hB0 hrow hkr hk0 t0 t1 hconv HW HK
      have hdl : s.data.toList.length = s.size := len_data s
      have HLe := Lib.hid (show (sgL (pl.take k)).length ≤ pl.length * 10000 from Nat.le_trans (sgL_len (pl.take k) 10000 (fun p hp => HZ.out p (List.mem_of_mem_take hp))) (Nat.mul_le_mul_right _ (by rw [List.length_take]; omega)))
      have hLe2 : pl.length * 10000 ≤ 100000000 := by omega
      generalize (Lib.bytesWorld (wr.alloc (.cells #[.string s, .bool q] 37)) 5 s) = wC at *
      generalize grownCap (wr.alloc (.cells #[.string s, .bool q] 37)) s.size 0 5 = cp at *
      have hcp := HRow.out.cap
      have hcp2 := HRow.out.max
      unfold maxLen at hcp2
      rw [hdl] at hcp
      obtain ⟨bs, hbs⟩ : ∃ bs, s.data.toList = bs := ⟨_, rfl⟩
      rw [hbs] at HRow hdl
      have HSg := Lib.hid (show sgP (s, q) = bs.map fun c => (c, q) by unfold sgP; rw [← hbs])
      clear hbs
      generalize wr.heap.size = B at *
      go_loopw [3, 18] (fun v i w2 => ∃ j : Nat, j ≤ bs.length ∧ i = .int .i64 j ∧ Own encSg 114 (fun g => w.heap.size ≤ g ∧ g ≠ B ∧ g ≠ B + 1) w2 v (sgL (pl.take k) ++ (bs.take j).map fun c => (c, q)) ∧ Bk w2 B [.string s, .bool q] ∧ SlAt encPb (fun g => g = B + 1) w2 (some ⟨B + 1, 0, none⟩) cp bs ∧ Keeps NoB w w2 ∧ B + 2 ≤ w2.heap.size) (fun _ i _ => bs.length + 1 - (intOf i).toNat)
      case atStart => exact ⟨0, Nat.zero_le _, rfl, by simpa using HW0.out, HBx.out, HRow.out, HK0.out, hs2⟩
      case round =>
        obtain ⟨j, hj, rfl, hown, hbx, hrow, hkp, hs3⟩ := hrel
        have HW := Lib.hid hown
        have HK := Lib.hid hkp
        have HB := Lib.hid hbx
        have HR := Lib.hid hrow
        have b1 := hbx.cell 1 _ rfl
        clear hown hkp hbx hrow HBx HRow HK0 HW0
        by_cases hjt : j < bs.length
        · have hjz : (j : Int) < (s.size : Int) := by omega
          obtain ⟨c, hc⟩ : ∃ c, bs[j]? = some c := ⟨_, List.getElem?_eq_getElem hjt⟩
          obtain ⟨_, _, e0, _, _, t0⟩ := HR.out.pb hc
          cases e0
          rw [Nat.zero_add] at t0
          have HN2 := Lib.hid (tk_next hc)
          have HLj : (sgL (pl.take k) ++ (bs.take j).map fun c => (c, q)).length ≤ 100010000 := by
            have := HLe.out
            rw [List.length_append, List.length_map, List.length_take]
            omega
          clear hc
          generalize hL : (sgL (pl.take k) ++ (bs.take j).map fun c => (c, q)) = L at *
          go_wp2_with (at_builtin; go_loud (refine wpl_append rfl (.tmp 22) (.tmp 27) rfl tSg (HW.out.keep ((Keeps.refl NoB wr).alloc _) (fun _ _ h => h)) (own_lit (E := encSg) (e := 114) (w := wr) (S := fun _ => True) [(c, q)] #[.int .u8 (c.toNat : Int), .bool q] rfl 1 rfl trivial (by decide)).sl rfl rfl (by simp; omega) (by simp [maxLen]; omega) (by simp; omega) ?_))
          intro v' w3 ho2 hk2 hf2
          have HO := Lib.hid ho2
          have hnn : ∀ g, u3.ownBlock = some g → ¬ (g = B ∨ g = B + 1) := fun g hg h => by
            have := HW.out.2 g hg
            omega
          have HK2 := Lib.hid ((HK.out.alloc (.cells #[.int .u8 (c.toNat : Int), .bool q] 114)).step hk2 (fun g hg => .inr (HW.out.2 g hg).1))
          have HB2 := Lib.hid ((HB.out.on ((Keeps.refl NoB wr).alloc (.cells #[.int .u8 (c.toNat : Int), .bool q] 114))).keep hk2 (fun h => hnn _ h (.inl rfl)))
          have HR2 := Lib.hid ((HR.out.keepN ((Keeps.refl NoB wr).alloc (.cells #[.int .u8 (c.toNat : Int), .bool q] 114))).keep hk2 (fun g hg _ h => hnn _ h (.inr hg)))
          have hs4 : B + 2 ≤ w3.heap.size := by have := hk2.size; simp at this; omega
          clear ho2 hk2 hf2 hnn
          go_wp2_with fail
          go_roundw
          case rel => exact ⟨j + 1, by omega, by go_num, by rw [HN2.out, List.map_append, ← List.append_assoc, hL]; exact HO.out, HB2.out, HR2.out, HK2.out, hs4⟩
          case measure => simp [intOf]; omega
        · obtain rfl : j = bs.length := by omega
          have hjz : ¬ (bs.length : Int) < (s.size : Int) := by omega
          rw [List.take_length] at HW
          go_wp2_with fail
          go_roundw
          case rel => exact ⟨k + 1, by omega, by go_num, by rw [HN.out, show sgL (pl.take k ++ [(s, q)]) = sgL (pl.take k) ++ sgP (s, q) by unfold sgL; simp, HSg.out]; exact HW.out.mono (fun _ _ h => h.1), HK.out⟩
          case measure => simp [intOf]; omega
    · obtain rfl : k = pl.length := by omega
      have hlz : ¬ (pl.length : Int) < (pl.length : Int) := by omega
      rw [List.take_length] at HW
      clear hconv
      go_wp2_with fail
      go_ret
      exact ⟨_, rfl, HW.out, HK.out⟩

/-- Does a sign mean something, and is it that? -/
theorem is_any (c b : UInt8) (q : Bool) (w : World) : Calls Tryd.prog 53 #[.agg #[.int .u8 (c.toNat : Int), .bool q], .int .u8 (b.toNat : Int)] w fun e w' => e = .returned (.bool (!q && decide (c = b))) ∧ Keeps NoB w w' := by
  have hd : ((c.toNat : Int) == (b.toNat : Int)) = decide (c = b) := by
    by_cases h : c = b
    · subst h; simp
    · have : c.toNat ≠ b.toNat := fun e => h (UInt8.toNat_inj.1 e)
      simp [h]; omega
  generalize decide (c = b) = d at *
  go_enter Tryd.func53, Tryd.ntmps53
  go_wp2_with fail
  all_goals
    go_ret
    exact ⟨by simp [*], (Keeps.refl _ _).alloc _⟩

end Go.Proofs.YtfomkkoecelakaaDoor

/-
  Layer 16: contracts of package pat: Compile, where no unquoted bracket stands.
-/
set_option maxRecDepth 100000
set_option maxHeartbeats 8000000
namespace Go.Proofs.YtfomkkoecelakaaDoor
open Go Go.RowKit

/-- A part that is no set: its kind, its byte. -/
def encP1 : Enc (UInt8 × UInt8) where
  enc := fun c => [.int .u8 (c.1.toNat : Int), .int .u8 (c.2.toNat : Int), .bool false, .slice none 0 0]
  k := 4
  pos := by decide
  len := fun _ => rfl
  one := fun x v hv => by simp at hv; rcases hv with rfl | rfl | rfl | rfl <;> rfl
theorem tP1 : ElemT Tryd.prog encP1 89 117 (0, 0) 32 :=
  elemOf (.agg #[.int .u8 0, .int .u8 0, .bool false, .slice none 0 0]) Tryd.underlying89 (by kernel_rfl) rfl

def partOf (g : UInt8 × Bool) : UInt8 × UInt8 := if g.2 = false ∧ (g.1 = 63 ∨ g.1 = 42) then (g.1, 0) else (98, g.1)
def prL (sg : List (UInt8 × Bool)) : List (UInt8 × UInt8) := sg.map partOf
theorem prL_next {sg : List (UInt8 × Bool)} {k : Nat} {c : UInt8 × Bool} (h : sg[k]? = some c) : prL (sg.take (k + 1)) = prL (sg.take k) ++ [partOf c] := by rw [tk_next h]; unfold prL; simp

/-- Amid Compile. -/
structure OnC (w wx : World) (sg : List (UInt8 × Bool)) (sp : Option Addr) (sc i N : Nat) (v : Value) : Prop where
  ile : i ≤ sg.length
  bout : Bk wx w.heap.size [.slice none 0 0]
  bl : Bk wx (w.heap.size + 1) [v]
  own : Own encP1 117 (fun g => N ≤ g) wx v (prL (sg.take i))
  sl : SlAt encSg (fun g => w.heap.size + 2 ≤ g ∧ g < N) wx sp sc sg
  keeps : Keeps NoB w wx
  lo : w.heap.size + 2 ≤ N
  hi : N ≤ wx.heap.size

def CmpA (w : World) (sg : List (UInt8 × Bool)) (x : Value) (a' : Act) (wx : World) : Prop :=
  ∃ (fz : Nat → Value) (sp : Option Addr) (sc i N : Nat) (v : Value), a' = { tmps := List.toArray (x :: fz 1 :: .pointer (some ⟨w.heap.size, 0, none⟩) :: .pointer (some ⟨w.heap.size + 1, 0, none⟩) :: .slice sp sg.length sc :: .int .i64 (i : Int) :: fz 6 :: fz 7 :: fz 8 :: fz 9 :: fz 10 :: fz 11 :: fz 12 :: fz 13 :: fz 14 :: fz 15 :: fz 16 :: fz 17 :: fz 18 :: fz 19 :: fz 20 :: fz 21 :: fz 22 :: fz 23 :: fz 24 :: fz 25 :: fz 26 :: fz 27 :: fz 28 :: fz 29 :: fz 30 :: fz 31 :: fz 32 :: fz 33 :: fz 34 :: fz 35 :: fz 36 :: fz 37 :: fz 38 :: fz 39 :: fz 40 :: fz 41 :: fz 42 :: fz 43 :: fz 44 :: fz 45 :: fz 46 :: fz 47 :: fz 48 :: fz 49 :: fz 50 :: fz 51 :: fz 52 :: fz 53 :: fz 54 :: fz 55 :: fz 56 :: []), defers := [] } ∧ OnC w wx sg sp sc i N v

theorem CmpA.mk {w : World} {sg : List (UInt8 × Bool)} {x : Value} {a' : Act} {wx : World} {sp : Option Addr} {sc i N : Nat} {v : Value}
    (h : (fun fz : Nat → Value => a' = { tmps := List.toArray (x :: fz 1 :: .pointer (some ⟨w.heap.size, 0, none⟩) :: .pointer (some ⟨w.heap.size + 1, 0, none⟩) :: .slice sp sg.length sc :: .int .i64 (i : Int) :: fz 6 :: fz 7 :: fz 8 :: fz 9 :: fz 10 :: fz 11 :: fz 12 :: fz 13 :: fz 14 :: fz 15 :: fz 16 :: fz 17 :: fz 18 :: fz 19 :: fz 20 :: fz 21 :: fz 22 :: fz 23 :: fz 24 :: fz 25 :: fz 26 :: fz 27 :: fz 28 :: fz 29 :: fz 30 :: fz 31 :: fz 32 :: fz 33 :: fz 34 :: fz 35 :: fz 36 :: fz 37 :: fz 38 :: fz 39 :: fz 40 :: fz 41 :: fz 42 :: fz 43 :: fz 44 :: fz 45 :: fz 46 :: fz 47 :: fz 48 :: fz 49 :: fz 50 :: fz 51 :: fz 52 :: fz 53 :: fz 54 :: fz 55 :: fz 56 :: []), defers := [] }) (fun i => a'.tmps.toList.getD i undef))
    (J : OnC w wx sg sp sc i N v) : CmpA w sg x a' wx := ⟨fun i => a'.tmps.toList.getD i undef, sp, sc, i, N, v, h, J⟩

theorem pres_cell_one {fn : Func} {p : Tmp} {ty : TypeId} (h : fn.results = #[.cell p ty]) (tmps : Array Value) (P : Program) (w : World) :
    (results fn tmps).run P w = ((asAddr (tmps.getD p undef)).run P w).andThen fun a w₁ => (loadVar ty a).run P w₁ := by
  simp only [results, h]
  simp [Sem.run_bind, Result.andThen]

theorem u8_dec (c b : UInt8) (z : Int) (hz : z = (b.toNat : Int)) : ((c.toNat : Int) == z) = decide (c = b) := by
  subst hz
  by_cases h : c = b
  · subst h; simp
  · have : c.toNat ≠ b.toNat := fun e => h (UInt8.toNat_inj.1 e)
    simp [h]; omega

theorem compile_any {S1 : Nat → Prop} {w : World} {pa : Option Addr} {ca : Nat} {pl : List (ByteArray × Bool)} (ha : SlAt encPc S1 w pa ca pl) (hn : pl.length ≤ 10000) (hz : ∀ p ∈ pl, p.1.size ≤ 10000) (hb : ∀ g ∈ sgL pl, g.2 = false → g.1 ≠ 91) :
    Calls Tryd.prog 32 #[.slice pa pl.length ca] w fun e w' => ∃ v, e = .returned (.agg #[v]) ∧ Sl encP1 (fun g => w.heap.size ≤ g) w' v (prL (sgL pl)) ∧ Keeps NoB w w' := by
  have HS := Lib.hid (fun wx (k : Keeps NoB w wx) => signs_any (ha.keepN k) hn hz)
  have HB := Lib.hid hb
  have hlen := sgL_len pl 10000 hz
  have hlen2 : pl.length * 10000 ≤ 100000000 := by omega
  have hsl : (sgL pl).length ≤ 100000000 := by omega
  clear ha hz hb hlen hlen2 hn
  generalize sgL pl = sg at *
  go_enter Tryd.func32, Tryd.ntmps32
  go_wp2
  refine wp_scope_goto 0 (CmpA w sg (.slice pa pl.length ca)) (fun a' _ => sg.length - (intOf (a'.tmps.getD 5 undef)).toNat) rfl ?_ ?_
  · intro HJ
    have HJ' := Lib.hid HJ
    clear HJ
    have HK0 := Lib.hid (((Keeps.refl NoB w).alloc (.cells #[.slice none 0 0] 91)).alloc (.cells #[.slice none 0 0] 91))
    go_wp2_with (go_at_call 52; go_loud (refine (HS.out _ HK0.out).mono ?_); rintro e w4 ⟨v, rfl, ho, hk4⟩)
    obtain ⟨sp, sc, rfl, hs⟩ := ho.sl
    have e1 : ((w.alloc (.cells #[.slice none 0 0] 91)).alloc (.cells #[.slice none 0 0] 91)).heap.size = w.heap.size + 2 := by simp
    have e2 : (w.alloc (.cells #[.slice none 0 0] 91)).heap.size = w.heap.size + 1 := by simp
    have hsz := hk4.size
    rw [e1] at hs hsz
    have b1 := ((Bk.new (Keeps.refl NoB (w.alloc (.cells #[.slice none 0 0] 91)))).on ((Keeps.refl NoB _).alloc (.cells #[.slice none 0 0] 91))).on hk4
    have b2 := (Bk.new (Keeps.refl NoB ((w.alloc (.cells #[.slice none 0 0] 91)).alloc (.cells #[.slice none 0 0] 91)))).on hk4
    rw [e2] at b2
    have J0 : OnC w w4 sg sp sc 0 w4.heap.size (.slice none 0 0) := ⟨Nat.zero_le _, b1, b2, Own.nil _ _ _ _, ⟨hs.cap, hs.max, hs.nilc, hs.spot, fun h => by
      obtain ⟨g, off, q1, q2, q3, q4⟩ := hs.cells h
      exact ⟨g, off, q1, ⟨q2, q3⟩, q3, q4⟩⟩, HK0.out.trans hk4, hsz, Nat.le_refl _⟩
    clear ho hs b1 b2 hk4
    go_step3
    go_step
    go_step
    refine HJ'.out _ _ ?_
    exact CmpA.mk (i := 0) rfl J0
  · rintro a' wx ⟨fz, sp, sc, i, N, v, rfl, hJ⟩
    have HJ := Lib.hid hJ
    have hile := hJ.ile
    have hscap := hJ.sl.cap
    have hsmax := hJ.sl.max
    unfold maxLen at hsmax
    have cv := hJ.bl.cell 0 _ rfl
    have co := hJ.bout.cell 0 _ rfl
    have lt1 := hJ.bl.lt
    have lt0 := hJ.bout.lt
    have fo := hJ.bout.fz 0
    have fl := hJ.bl.fz 0
    clear hJ
    by_cases hi : i = sg.length
    · subst hi
      have hne : ((sg.length : Int) == (sg.length : Int)) = true := by simp
      obtain ⟨p', cap', rfl, hfin⟩ : ∃ p' cap', v = .slice p' (prL sg).length cap' ∧ SlAt encP1 (fun g => N ≤ g) wx p' cap' (prL sg) := by
        have := HJ.out.own.sl
        rw [List.take_length] at this
        obtain ⟨p', c', h1, h2⟩ := this
        exact ⟨p', c', h1, h2⟩
      have HFn := Lib.hid hfin
      have HL := Lib.hid (fun g (h : N ≤ g) => (show w.heap.size ≤ g ∧ g ≠ w.heap.size from by have := HJ.out.lo; omega))
      have HK := Lib.hid HJ.out.keeps
      clear HJ hfin HS HB
      go_wp2_with fail
      simp only [Exit.jump]
      refine bodyPost_ret (v := .agg #[.slice p' (prL sg).length cap']) ?_ rfl ⟨_, rfl, ⟨_, _, rfl, ?_⟩, HK.out.setCell (.inr (Nat.le_refl _)) _⟩
      · rw [pres_cell_one rfl]
        go_simp
      · exact HFn.out.keepS (kset wx ⟨w.heap.size, 0, none⟩ _) (fun g hg _ h => (HL.out g hg).2 h) (fun g hg _ => (HL.out g hg).1)
    · have hlt : i < sg.length := by omega
      have hne : ((i : Int) == (sg.length : Int)) = false := by simp; omega
      obtain ⟨cq, hcq⟩ : ∃ cq, sg[i]? = some cq := ⟨_, List.getElem?_eq_getElem hlt⟩
      obtain ⟨c, q⟩ := cq
      have hno := HB.out (c, q) (List.mem_of_getElem? hcq)
      simp only at hno
      have HN := Lib.hid (prL_next hcq)
      obtain ⟨g, off, rfl, _, _, t0, t1⟩ := HJ.out.sl.sg hcq
      simp only at t0 t1
      have HI63 := Lib.hid (fun wy => (show Calls Tryd.prog 53 #[.agg #[.int .u8 (c.toNat : Int), .bool q], .int .u8 63] wy _ from is_any c 63 q wy))
      have HI42 := Lib.hid (fun wy => (show Calls Tryd.prog 53 #[.agg #[.int .u8 (c.toNat : Int), .bool q], .int .u8 42] wy _ from is_any c 42 q wy))
      have HI91 := Lib.hid (fun wy => (show Calls Tryd.prog 53 #[.agg #[.int .u8 (c.toNat : Int), .bool q], .int .u8 91] wy _ from is_any c 91 q wy))
      have h91 : (!q && decide (c = 91)) = false := by
        cases q
        · simp; exact hno rfl
        · rfl
      rw [h91] at HI91
      clear hcq hno HB HS h91
      go_upto_region 9 with fail
      have hB1 := ((Bk.new (Keeps.refl NoB (wx.alloc (.cells #[.int .u8 (c.toNat : Int), .bool q] 114)))).on ((Keeps.refl NoB _).alloc (.cells #[.int .u8 98, .int .u8 (c.toNat : Int), .bool false, .slice none 0 0] 117)))
      have hB2 := Bk.new (Keeps.refl NoB ((wx.alloc (.cells #[.int .u8 (c.toNat : Int), .bool q] 114)).alloc (.cells #[.int .u8 98, .int .u8 (c.toNat : Int), .bool false, .slice none 0 0] 117)))
      rw [show (wx.alloc (.cells #[.int .u8 (c.toNat : Int), .bool q] 114)).heap.size = wx.heap.size + 1 by simp] at hB2
      have HB1 := Lib.hid hB1
      have HB2 := Lib.hid hB2
      have HK1 := Lib.hid (((Keeps.refl NoB wx).alloc (.cells #[.int .u8 (c.toNat : Int), .bool q] 114)).alloc (.cells #[.int .u8 98, .int .u8 (c.toNat : Int), .bool false, .slice none 0 0] 117))
      clear hB1 hB2 t0 t1 cv co
      generalize ((wx.alloc (.cells #[.int .u8 (c.toNat : Int), .bool q] 114)).alloc (.cells #[.int .u8 98, .int .u8 (c.toNat : Int), .bool false, .slice none 0 0] 117)) = w1 at *
      have b0 := HB1.out.cell 0 _ rfl
      have b1 := HB1.out.cell 1 _ rfl
      by_cases h63 : q = false ∧ c = 63
      · obtain ⟨rfl, rfl⟩ := h63
        go_upto_region 17 with (go_at_call 53; go_loud (refine (HI63.out _).mono ?_); rintro e w5 ⟨rfl, hk5⟩; have z4 := (HB1.out.on hk5).cell 0 _ rfl; have q0 := (HB2.out.on hk5).cell 0 _ rfl; have q1 := (HB2.out.on hk5).cell 1 _ rfl; have q2 := (HB2.out.on hk5).cell 2 _ rfl; have q3 := (HB2.out.on hk5).cell 3 _ rfl; have qf := (HB2.out.on hk5).fz; have ql := (HB2.out.on hk5).lt)
        have HK5 := Lib.hid (HK1.out.trans hk5)
        have HP5 := Lib.hid (HB2.out.on hk5)
        have HP6 := Lib.hid ((((HP5.out.put 0 (.int .u8 63)).put 1 (.int .u8 0)).put 2 (.bool false)).put 3 (.slice none 0 0))
        have HK6 := Lib.hid ((((HK5.out.setCell (p := ⟨wx.heap.size + 1, 0, none⟩) (.inr (by show wx.heap.size ≤ wx.heap.size + 1; omega)) (.int .u8 63)).setCell (p := ⟨wx.heap.size + 1, 1, none⟩) (.inr (by show wx.heap.size ≤ wx.heap.size + 1; omega)) (.int .u8 0)).setCell (p := ⟨wx.heap.size + 1, 2, none⟩) (.inr (by show wx.heap.size ≤ wx.heap.size + 1; omega)) (.bool false)).setCell (p := ⟨wx.heap.size + 1, 3, none⟩) (.inr (by show wx.heap.size ≤ wx.heap.size + 1; omega)) (.slice none 0 0))
        clear hk5 q0 q1 q2 q3 qf ql HK5 HP5 z4 b0 b1 HB1 HK1 HB2 HI63 HI42 HI91
        rw [show partOf (63, false) = (63, 0) by decide] at HN
        generalize ((((w5.setCell ⟨wx.heap.size + 1, 0, none⟩ (.int .u8 63)).setCell ⟨wx.heap.size + 1, 1, none⟩ (.int .u8 0)).setCell ⟨wx.heap.size + 1, 2, none⟩ (.bool false)).setCell ⟨wx.heap.size + 1, 3, none⟩ (.slice none 0 0)) = w6 at *
        have p0 := HP6.out.cell 0 _ rfl
        have p1 := HP6.out.cell 1 _ rfl
        have p2 := HP6.out.cell 2 _ rfl
        have p3 := HP6.out.cell 3 _ rfl
        have l0 := (HJ.out.bl.on HK6.out).cell 0 _ rfl
        have hN6 : N ≤ w6.heap.size := Nat.le_trans HJ.out.hi HK6.out.size
        have hlo := HJ.out.lo
        have hpl : (prL (sg.take i)).length ≤ 100000000 := by unfold prL; rw [List.length_map, List.length_take]; omega
        go_wp2_with (at_builtin; go_loud (refine wpl_append rfl (.tmp 52) (.tmp 54) rfl tP1 ((HJ.out.own.keep HK6.out (fun _ _ h => h)).keep ((Keeps.refl NoB w6).alloc _) (fun _ _ h => h)) (own_lit (E := encP1) (e := 117) (w := w6) (S := fun _ => True) [(63, 0)] #[.int .u8 63, .int .u8 0, .bool false, .slice none 0 0] rfl 1 rfl trivial (by decide)).sl rfl rfl (by simp; omega) (by simp [maxLen]; omega) (by simp; omega) ?_))
        intro v' w7 ho2 hk2 hf2
        have ka : Keeps NoB wx (w6.alloc (.cells #[.int .u8 63, .int .u8 0, .bool false, .slice none 0 0] 117)) := HK6.out.alloc _
        have hnb : ∀ g, v.ownBlock = some g → N ≤ g := fun g hg => HJ.out.own.2 g hg
        have hBo := (HJ.out.bout.on ka).keep hk2 (fun h => by have := hnb _ h; omega)
        have hBl := (HJ.out.bl.on ka).keep hk2 (fun h => by have := hnb _ h; omega)
        have hSl := (HJ.out.sl.keepN ka).keep hk2 (fun g hg _ h => by have := hnb _ h; omega)
        have hKp : Keeps NoB w w7 := (HJ.out.keeps.trans ka).step hk2 (fun g hg => .inr (by have := hnb _ hg; omega))
        have hsz7 : N ≤ w7.heap.size := by have := hk2.size; simp at this; omega
        obtain ⟨a2, n2, c2, rfl⟩ : ∃ a2 n2 c2, v' = .slice a2 n2 c2 := by
          rcases ho2.cases with ⟨hv, _⟩ | ⟨g, cap, cur, hv, _⟩
          · exact ⟨_, _, _, hv⟩
          · exact ⟨_, _, _, hv⟩
        have d0 := hBl.cell 0 _ rfl
        have d1 := hBl.fz 0
        have d2 := hBl.lt
        have J2 : OnC w (w7.setCell ⟨w.heap.size + 1, 0, none⟩ (.slice a2 n2 c2)) sg (some ⟨g, off, none⟩) sc (i + 1) N (.slice a2 n2 c2) := ⟨by omega,
          hBo.keep (kset w7 ⟨w.heap.size + 1, 0, none⟩ _) (fun h => by have : w.heap.size = w.heap.size + 1 := h; omega), hBl.put 0 _,
          by rw [HN.out]; exact ho2.keep (kset w7 ⟨w.heap.size + 1, 0, none⟩ _) (fun g hg h => by have h1 := ho2.2 g hg; have h2 : g = w.heap.size + 1 := h; omega),
          hSl.keep (kset w7 ⟨w.heap.size + 1, 0, none⟩ _) (fun g hg _ h => by have h2 : g = w.heap.size + 1 := h; omega),
          hKp.setCell (.inr (by show w.heap.size ≤ w.heap.size + 1; omega)) _, hlo, by simpa using hsz7⟩
        have HJ2 := Lib.hid J2
        clear J2 ho2 hk2 hf2 ka hnb hBo hBl hSl hKp p0 p1 p2 p3 l0 HP6 HK6 HJ HN
        go_wp2_with fail
        go_step3
        refine ⟨rfl, CmpA.mk (i := i + 1) rfl HJ2.out, ?_⟩
        simp [intOf]; omega
      by_cases h42 : q = false ∧ c = 42
      · obtain ⟨rfl, rfl⟩ := h42
        go_upto_region 10 with (go_at_call 53; go_loud (refine (HI63.out _).mono ?_); rintro e w4 ⟨rfl, hk4⟩)
        have z4 := (HB1.out.on hk4).cell 0 _ rfl
        have y4 := (HB1.out.on hk4).cell 1 _ rfl
        have HB4 := Lib.hid (HB1.out.on hk4)
        have HK4 := Lib.hid (HK1.out.trans hk4)
        have HP4 := Lib.hid (HB2.out.on hk4)
        clear hk4 b0 b1 HB1 HK1 HB2
        go_upto_region 17 with (go_at_call 53; go_loud (refine (HI42.out _).mono ?_); rintro e w5 ⟨rfl, hk5⟩; have z5 := (HB4.out.on hk5).cell 0 _ rfl; have q0 := (HP4.out.on hk5).cell 0 _ rfl; have q1 := (HP4.out.on hk5).cell 1 _ rfl; have q2 := (HP4.out.on hk5).cell 2 _ rfl; have q3 := (HP4.out.on hk5).cell 3 _ rfl; have qf := (HP4.out.on hk5).fz; have ql := (HP4.out.on hk5).lt)
        have HK5 := Lib.hid (HK4.out.trans hk5)
        have HP5 := Lib.hid (HP4.out.on hk5)
        have HP6 := Lib.hid ((((HP5.out.put 0 (.int .u8 42)).put 1 (.int .u8 0)).put 2 (.bool false)).put 3 (.slice none 0 0))
        have HK6 := Lib.hid ((((HK5.out.setCell (p := ⟨wx.heap.size + 1, 0, none⟩) (.inr (by show wx.heap.size ≤ wx.heap.size + 1; omega)) (.int .u8 42)).setCell (p := ⟨wx.heap.size + 1, 1, none⟩) (.inr (by show wx.heap.size ≤ wx.heap.size + 1; omega)) (.int .u8 0)).setCell (p := ⟨wx.heap.size + 1, 2, none⟩) (.inr (by show wx.heap.size ≤ wx.heap.size + 1; omega)) (.bool false)).setCell (p := ⟨wx.heap.size + 1, 3, none⟩) (.inr (by show wx.heap.size ≤ wx.heap.size + 1; omega)) (.slice none 0 0))
        clear hk5 q0 q1 q2 q3 qf ql HK5 HP5 z5 z4 y4 HB4 HK4 HP4 HI63 HI42 HI91
        rw [show partOf (42, false) = (42, 0) by decide] at HN
        generalize ((((w5.setCell ⟨wx.heap.size + 1, 0, none⟩ (.int .u8 42)).setCell ⟨wx.heap.size + 1, 1, none⟩ (.int .u8 0)).setCell ⟨wx.heap.size + 1, 2, none⟩ (.bool false)).setCell ⟨wx.heap.size + 1, 3, none⟩ (.slice none 0 0)) = w6 at *
        have p0 := HP6.out.cell 0 _ rfl
        have p1 := HP6.out.cell 1 _ rfl
        have p2 := HP6.out.cell 2 _ rfl
        have p3 := HP6.out.cell 3 _ rfl
        have l0 := (HJ.out.bl.on HK6.out).cell 0 _ rfl
        have hN6 : N ≤ w6.heap.size := Nat.le_trans HJ.out.hi HK6.out.size
        have hlo := HJ.out.lo
        have hpl : (prL (sg.take i)).length ≤ 100000000 := by unfold prL; rw [List.length_map, List.length_take]; omega
        go_wp2_with (at_builtin; go_loud (refine wpl_append rfl (.tmp 52) (.tmp 54) rfl tP1 ((HJ.out.own.keep HK6.out (fun _ _ h => h)).keep ((Keeps.refl NoB w6).alloc _) (fun _ _ h => h)) (own_lit (E := encP1) (e := 117) (w := w6) (S := fun _ => True) [(42, 0)] #[.int .u8 42, .int .u8 0, .bool false, .slice none 0 0] rfl 1 rfl trivial (by decide)).sl rfl rfl (by simp; omega) (by simp [maxLen]; omega) (by simp; omega) ?_))
        intro v' w7 ho2 hk2 hf2
        have ka : Keeps NoB wx (w6.alloc (.cells #[.int .u8 42, .int .u8 0, .bool false, .slice none 0 0] 117)) := HK6.out.alloc _
        have hnb : ∀ g, v.ownBlock = some g → N ≤ g := fun g hg => HJ.out.own.2 g hg
        have hBo := (HJ.out.bout.on ka).keep hk2 (fun h => by have := hnb _ h; omega)
        have hBl := (HJ.out.bl.on ka).keep hk2 (fun h => by have := hnb _ h; omega)
        have hSl := (HJ.out.sl.keepN ka).keep hk2 (fun g hg _ h => by have := hnb _ h; omega)
        have hKp : Keeps NoB w w7 := (HJ.out.keeps.trans ka).step hk2 (fun g hg => .inr (by have := hnb _ hg; omega))
        have hsz7 : N ≤ w7.heap.size := by have := hk2.size; simp at this; omega
        obtain ⟨a2, n2, c2, rfl⟩ : ∃ a2 n2 c2, v' = .slice a2 n2 c2 := by
          rcases ho2.cases with ⟨hv, _⟩ | ⟨g, cap, cur, hv, _⟩
          · exact ⟨_, _, _, hv⟩
          · exact ⟨_, _, _, hv⟩
        have d0 := hBl.cell 0 _ rfl
        have d1 := hBl.fz 0
        have d2 := hBl.lt
        have J2 : OnC w (w7.setCell ⟨w.heap.size + 1, 0, none⟩ (.slice a2 n2 c2)) sg (some ⟨g, off, none⟩) sc (i + 1) N (.slice a2 n2 c2) := ⟨by omega,
          hBo.keep (kset w7 ⟨w.heap.size + 1, 0, none⟩ _) (fun h => by have : w.heap.size = w.heap.size + 1 := h; omega), hBl.put 0 _,
          by rw [HN.out]; exact ho2.keep (kset w7 ⟨w.heap.size + 1, 0, none⟩ _) (fun g hg h => by have h1 := ho2.2 g hg; have h2 : g = w.heap.size + 1 := h; omega),
          hSl.keep (kset w7 ⟨w.heap.size + 1, 0, none⟩ _) (fun g hg _ h => by have h2 : g = w.heap.size + 1 := h; omega),
          hKp.setCell (.inr (by show w.heap.size ≤ w.heap.size + 1; omega)) _, hlo, by simpa using hsz7⟩
        have HJ2 := Lib.hid J2
        clear J2 ho2 hk2 hf2 ka hnb hBo hBl hSl hKp p0 p1 p2 p3 l0 HP6 HK6 HJ HN
        go_wp2_with fail
        go_step3
        refine ⟨rfl, CmpA.mk (i := i + 1) rfl HJ2.out, ?_⟩
        simp [intOf]; omega
      have e63 : (!q && decide (c = 63)) = false := by
        cases q
        · simp at h63 ⊢; exact h63
        · rfl
      have e42 : (!q && decide (c = 42)) = false := by
        cases q
        · simp at h42 ⊢; exact h42
        · rfl
      rw [e63] at HI63
      rw [e42] at HI42
      clear e63 e42
      go_upto_region 10 with (go_at_call 53; go_loud (refine (HI63.out _).mono ?_); rintro e w4 ⟨rfl, hk4⟩)
      have z4 := (HB1.out.on hk4).cell 0 _ rfl
      have y4 := (HB1.out.on hk4).cell 1 _ rfl
      have HB4 := Lib.hid (HB1.out.on hk4)
      have HK4 := Lib.hid (HK1.out.trans hk4)
      have HP4 := Lib.hid (HB2.out.on hk4)
      clear hk4 b0 b1 HB1 HK1 HB2
      go_upto_region 12 with (go_at_call 53; go_loud (refine (HI42.out _).mono ?_); rintro e w5 ⟨rfl, hk5⟩)
      have z5 := (HB4.out.on hk5).cell 0 _ rfl
      have y5 := (HB4.out.on hk5).cell 1 _ rfl
      have HK5 := Lib.hid (HK4.out.trans hk5)
      have HP5 := Lib.hid (HP4.out.on hk5)
      clear hk5 z4 y4 HB4 HK4 HP4
      go_upto_region 17 with (go_at_call 53; go_loud (refine (HI91.out _).mono ?_); rintro e w6 ⟨rfl, hk6⟩)
      have HK6 := Lib.hid (HK5.out.trans hk6)
      have HP6 := Lib.hid (HP5.out.on hk6)
      clear hk6 z5 y5 HK5 HP5
      have hpt : partOf (c, q) = (98, c) := by
        unfold partOf
        rw [if_neg]
        rintro ⟨h1, h2 | h2⟩
        · exact h63 ⟨h1, h2⟩
        · exact h42 ⟨h1, h2⟩
      rw [hpt] at HN
      clear hpt h63 h42
      have p0 := HP6.out.cell 0 _ rfl
      have p1 := HP6.out.cell 1 _ rfl
      have p2 := HP6.out.cell 2 _ rfl
      have p3 := HP6.out.cell 3 _ rfl
      have l0 := (HJ.out.bl.on HK6.out).cell 0 _ rfl
      have hN6 : N ≤ w6.heap.size := Nat.le_trans HJ.out.hi HK6.out.size
      have hlo := HJ.out.lo
      have hpl : (prL (sg.take i)).length ≤ 100000000 := by unfold prL; rw [List.length_map, List.length_take]; omega
      go_wp2_with (at_builtin; go_loud (refine wpl_append rfl (.tmp 52) (.tmp 54) rfl tP1 ((HJ.out.own.keep HK6.out (fun _ _ h => h)).keep ((Keeps.refl NoB w6).alloc _) (fun _ _ h => h)) (own_lit (E := encP1) (e := 117) (w := w6) (S := fun _ => True) [(98, c)] #[.int .u8 98, .int .u8 (c.toNat : Int), .bool false, .slice none 0 0] rfl 1 rfl trivial (by decide)).sl rfl rfl (by simp; omega) (by simp [maxLen]; omega) (by simp; omega) ?_))
      intro v' w7 ho2 hk2 hf2
      have ka : Keeps NoB wx (w6.alloc (.cells #[.int .u8 98, .int .u8 (c.toNat : Int), .bool false, .slice none 0 0] 117)) := HK6.out.alloc _
      have hnb : ∀ g, v.ownBlock = some g → N ≤ g := fun g hg => HJ.out.own.2 g hg
      have hBo := (HJ.out.bout.on ka).keep hk2 (fun h => by have := hnb _ h; omega)
      have hBl := (HJ.out.bl.on ka).keep hk2 (fun h => by have := hnb _ h; omega)
      have hSl := (HJ.out.sl.keepN ka).keep hk2 (fun g hg _ h => by have := hnb _ h; omega)
      have hKp : Keeps NoB w w7 := (HJ.out.keeps.trans ka).step hk2 (fun g hg => .inr (by have := hnb _ hg; omega))
      have hsz7 : N ≤ w7.heap.size := by have := hk2.size; simp at this; omega
      obtain ⟨a2, n2, c2, rfl⟩ : ∃ a2 n2 c2, v' = .slice a2 n2 c2 := by
        rcases ho2.cases with ⟨hv, _⟩ | ⟨g, cap, cur, hv, _⟩
        · exact ⟨_, _, _, hv⟩
        · exact ⟨_, _, _, hv⟩
      have d0 := hBl.cell 0 _ rfl
      have d1 := hBl.fz 0
      have d2 := hBl.lt
      have J2 : OnC w (w7.setCell ⟨w.heap.size + 1, 0, none⟩ (.slice a2 n2 c2)) sg (some ⟨g, off, none⟩) sc (i + 1) N (.slice a2 n2 c2) := ⟨by omega,
        hBo.keep (kset w7 ⟨w.heap.size + 1, 0, none⟩ _) (fun h => by have : w.heap.size = w.heap.size + 1 := h; omega), hBl.put 0 _,
        by rw [HN.out]; exact ho2.keep (kset w7 ⟨w.heap.size + 1, 0, none⟩ _) (fun g hg h => by have h1 := ho2.2 g hg; have h2 : g = w.heap.size + 1 := h; omega),
        hSl.keep (kset w7 ⟨w.heap.size + 1, 0, none⟩ _) (fun g hg _ h => by have h2 : g = w.heap.size + 1 := h; omega),
        hKp.setCell (.inr (by show w.heap.size ≤ w.heap.size + 1; omega)) _, hlo, by simpa using hsz7⟩
      have HJ2 := Lib.hid J2
      clear J2 ho2 hk2 hf2 ka hnb hBo hBl hSl hKp p0 p1 p2 p3 l0 HP6 HK6 HJ HN
      go_wp2_with fail
      go_step3
      refine ⟨rfl, CmpA.mk (i := i + 1) rfl HJ2.out, ?_⟩
      simp [intOf]; omega

end Go.Proofs.YtfomkkoecelakaaDoor

/-
  Layer 16: contracts of package pat: Means, Dot, fits.
-/
set_option maxRecDepth 100000
set_option maxHeartbeats 8000000
namespace Go.Proofs.YtfomkkoecelakaaDoor
open Go Go.RowKit

theorem SlAt.p1 {S : Nat → Prop} {w : World} {p : Option Addr} {c : Nat} {l : List (UInt8 × UInt8)} (h : SlAt encP1 S w p c l) {i : Nat} {x : UInt8 × UInt8} (hi : l[i]? = some x) :
    ∃ g off, p = some ⟨g, off, none⟩ ∧ S g ∧ g < w.heap.size ∧ w.cell? ⟨g, off + i * 4, none⟩ = some (.int .u8 (x.1.toNat : Int)) ∧ w.cell? ⟨g, off + i * 4 + 1, none⟩ = some (.int .u8 (x.2.toNat : Int)) ∧
      w.cell? ⟨g, off + i * 4 + 2, none⟩ = some (.bool false) ∧ w.cell? ⟨g, off + i * 4 + 3, none⟩ = some (.slice none 0 0) := by
  obtain ⟨g, off, hp, hS, hg, hc⟩ := h.at hi
  exact ⟨g, off, hp, hS, hg, hc 0 _ rfl, by have := hc 1 _ rfl; rwa [← Nat.add_assoc] at this, by have := hc 2 _ rfl; rwa [← Nat.add_assoc] at this, by have := hc 3 _ rfl; rwa [← Nat.add_assoc] at this⟩

/-- Is a pattern more than a text? -/
def meansL (ps : List (UInt8 × UInt8)) : Bool := ps.any fun x => !decide (x.1 = 98)
/-- Does it begin with a dot? -/
def dotL : List (UInt8 × UInt8) → Bool
  | [] => false
  | x :: _ => decide (x.1 = 98) && decide (x.2 = 46)

theorem u8_is98 (c : UInt8) : ((c.toNat : Int) == 98) = decide (c = 98) := u8_dec c 98 98 rfl

theorem means_any {S1 : Nat → Prop} {w : World} {pa : Option Addr} {ca : Nat} {ps : List (UInt8 × UInt8)} (ha : SlAt encP1 S1 w pa ca ps) :
    Calls Tryd.prog 33 #[.agg #[.slice pa ps.length ca]] w fun e w' => e = .returned (.bool (meansL ps)) ∧ Keeps NoB w w' := by
  have hcap := ha.cap
  have hmax := ha.max
  unfold maxLen at hmax
  have HA := Lib.hid ha
  clear ha
  go_enter Tryd.func33, Tryd.ntmps33
  go_wp2
  go_loopw [8] (fun i wr => ∃ k : Nat, k ≤ ps.length ∧ i = .int .i64 k ∧ (∀ x ∈ ps.take k, x.1 = 98) ∧ Keeps NoB w wr) (fun i _ => ps.length + 1 - (intOf i).toNat)
  case atStart => exact ⟨0, Nat.zero_le _, rfl, fun x hx => by simp at hx, (Keeps.refl _ _).alloc _⟩
  case round =>
    obtain ⟨k, hk, rfl, hall, hkp⟩ := hrel
    have HAll := Lib.hid hall
    have HK := Lib.hid hkp
    clear hall hkp
    by_cases hlt : k < ps.length
    · have hlz : (k : Int) < (ps.length : Int) := by omega
      obtain ⟨x, hx⟩ : ∃ x, ps[k]? = some x := ⟨_, List.getElem?_eq_getElem hlt⟩
      obtain ⟨g, off, rfl, _, _, t0, t1, t2, t3⟩ := (HA.out.keepN HK.out).p1 hx
      by_cases h98 : x.1 = 98
      · have hb : ((x.1.toNat : Int) != 98) = false := by rw [h98]; rfl
        have HN : Hid (∀ y ∈ ps.take (k + 1), y.1 = 98) := Lib.hid (fun y hy => by
          rw [tk_next hx] at hy
          rcases List.mem_append.1 hy with h | h
          · exact HAll.out y h
          · rw [List.mem_singleton.1 h]; exact h98)
        clear h98 HAll hx
        go_wp2_with fail
        go_roundw
        case rel => exact ⟨k + 1, by omega, by go_num, HN.out, HK.out.alloc _⟩
        case measure => simp [intOf]; omega
      · have hb : ((x.1.toNat : Int) != 98) = true := by
          rw [bne, u8_is98]; simp [h98]
        have HM := Lib.hid (show meansL ps = true by
          unfold meansL
          rw [List.any_eq_true]
          exact ⟨x, List.mem_of_getElem? hx, by simp [h98]⟩)
        clear h98 HAll hx
        go_wp2_with fail
        go_ret
        exact ⟨by rw [HM.out]; rfl, HK.out.alloc _⟩
    · obtain rfl : k = ps.length := by omega
      have hlz : ¬ (ps.length : Int) < (ps.length : Int) := by omega
      have HM := Lib.hid (show meansL ps = false by
        unfold meansL
        rw [List.any_eq_false]
        intro x hx
        have := HAll.out x (by rw [List.take_length]; exact hx)
        simp [this])
      go_wp2_with fail
      go_ret
      exact ⟨by rw [HM.out]; rfl, HK.out⟩

theorem dot_any {S1 : Nat → Prop} {w : World} {pa : Option Addr} {ca : Nat} {ps : List (UInt8 × UInt8)} (ha : SlAt encP1 S1 w pa ca ps) :
    Calls Tryd.prog 36 #[.agg #[.slice pa ps.length ca]] w fun e w' => e = .returned (.bool (dotL ps)) ∧ Keeps NoB w w' := by
  have hcap := ha.cap
  have hmax := ha.max
  unfold maxLen at hmax
  match ps, ha, hcap with
  | [], ha, hcap =>
    clear ha
    go_enter Tryd.func36, Tryd.ntmps36
    go_wp2_with fail
    go_ret
    exact ⟨rfl, (Keeps.refl _ _).alloc _⟩
  | x :: l, ha, hcap =>
    obtain ⟨g, off, rfl, _, _, t0, t1, _, _⟩ := ha.p1 (i := 0) (x := x) rfl
    rw [show off + 0 * 4 = off by omega] at t0 t1
    have HD := Lib.hid (show dotL (x :: l) = (decide (x.1 = 98) && decide (x.2 = 46)) from rfl)
    have hb1 : ((x.1.toNat : Int) == 98) = decide (x.1 = 98) := u8_dec x.1 98 98 rfl
    have hb2 : ((x.2.toNat : Int) == 46) = decide (x.2 = 46) := u8_dec x.2 46 46 rfl
    have hln : 0 < (x :: l).length := by simp
    generalize decide (x.1 = 98) = d1 at *
    generalize decide (x.2 = 46) = d2 at *
    generalize (x :: l).length = n at *
    have hlz : (0 : Int) < (n : Int) := by omega
    clear ha
    cases d1
    all_goals
      go_enter Tryd.func36, Tryd.ntmps36
      go_wp2_with fail
      go_ret
      exact ⟨by rw [HD.out]; cases d2 <;> rfl, (Keeps.refl _ _).alloc _⟩

theorem fits_any (k b c : UInt8) (hk : k = 98 ∨ k = 63) (w : World) :
    Calls Tryd.prog 58 #[.agg #[.int .u8 (k.toNat : Int), .int .u8 (b.toNat : Int), .bool false, .slice none 0 0], .int .u8 (c.toNat : Int)] w fun e w' => e = .returned (.bool (fitsP ⟨k, b, false, []⟩ c)) ∧ Keeps NoB w w' := by
  have hb : ((b.toNat : Int) == (c.toNat : Int)) = decide (b = c) := u8_dec b c _ rfl
  rcases hk with rfl | rfl
  · have HF := Lib.hid (show fitsP ⟨98, b, false, []⟩ c = decide (b = c) from rfl)
    generalize decide (b = c) = d at *
    go_enter Tryd.func58, Tryd.ntmps58
    go_wp2_with fail
    go_ret
    exact ⟨by rw [HF.out]; rfl, (Keeps.refl _ _).alloc _⟩
  · have HF := Lib.hid (show fitsP ⟨63, b, false, []⟩ c = true from rfl)
    go_enter Tryd.func58, Tryd.ntmps58
    go_wp2_with fail
    go_ret
    exact ⟨by rw [HF.out]; rfl, (Keeps.refl _ _).alloc _⟩

end Go.Proofs.YtfomkkoecelakaaDoor
