/-
  How the reference's disk lies in memory: rows of nodes, each with its slice of entries.
-/
import Derived.Test.YtbmalnllppamdaaGreatDoorB09
import Derived.Test.YtbmalnllppamdaaGreatDoorB06
import Derived.Test.YtbmalnllppamdaaGreatDoorB10
import Derived.BigQuiet
import Derived.Deep.QuietTactic
import Derived.Test.YtbmalnllppamdaaGreatDoorB11

set_option linter.unusedSimpArgs false
set_option linter.unusedVariables false

set_option maxRecDepth 100000
namespace Go.Proofs.YtbmalnllppamdaaGreatDoor
open Go.RowKit

/-- A row: a node, its entries by their slice. -/
structure RRow where
  kind : Int
  mode : Int
  holds : Int
  data : ByteArray
  p : Option Addr
  n : Nat
  c : Nat

def encRow : Enc RRow where
  enc := fun r => [.int .i64 r.kind, .int .i64 r.mode, .int .i64 r.holds, .string r.data, .slice r.p r.n r.c]
  k := 5
  pos := by decide
  len := fun _ => rfl
  one := fun x v hv => by simp at hv; rcases hv with rfl | rfl | rfl | rfl | rfl <;> rfl

/-- A row is a node's. -/
structure RowIs (S : Nat → Prop) (w : World) (r : RRow) (x : Nd) : Prop where
  kind : r.kind = x.kind
  mode : r.mode = x.mode
  holds : r.holds = x.holds
  data : r.data = x.data
  n : r.n = x.ents.length
  ents : SlAt encEnt S w r.p r.c x.ents

/-- The rows at p are the nodes d. -/
structure RefAt (S : Nat → Prop) (w : World) (p : Option Addr) (c : Nat) (d : Nds) : Prop where
  rows : ∃ rows : List RRow, rows.length = d.length ∧ SlAt encRow S w p c rows ∧ ∀ (i : Nat) (r : RRow), rows[i]? = some r → RowIs S w r (nd d i)

def refV (p : Option Addr) (c : Nat) (d : Nds) (room : Int) : Value := .agg #[.slice p d.length c, .int .i64 room]
def IsRef (S : Nat → Prop) (w : World) (v : Value) (d : Nds) (room : Int) : Prop := ∃ p c, v = refV p c d room ∧ RefAt S w p c d

section
variable {S : Nat → Prop} {w w' : World} {p : Option Addr} {c : Nat} {d : Nds} {room : Int} {v : Value}

theorem RowIs.keepS {S' F : Nat → Prop} {r : RRow} {x : Nd} (h : RowIs S w r x) (k : Keeps F w w') (hF : ∀ g, S g → g < w.heap.size → ¬ F g) (hS : ∀ g, S g → g < w.heap.size → S' g) : RowIs S' w' r x :=
  ⟨h.kind, h.mode, h.holds, h.data, h.n, h.ents.keepS k hF hS⟩

theorem RefAt.keepS {S' F : Nat → Prop} (h : RefAt S w p c d) (k : Keeps F w w') (hF : ∀ g, S g → g < w.heap.size → ¬ F g) (hS : ∀ g, S g → g < w.heap.size → S' g) : RefAt S' w' p c d := by
  obtain ⟨rows, h1, h2, h3⟩ := h.rows
  exact ⟨rows, h1, h2.keepS k hF hS, fun i r hi => (h3 i r hi).keepS k hF hS⟩

theorem RefAt.keepN (h : RefAt S w p c d) (k : Keeps NoB w w') : RefAt S w' p c d := h.keepS k (fun _ _ _ h => h) (fun _ h _ => h)

theorem IsRef.keepS {S' F : Nat → Prop} (h : IsRef S w v d room) (k : Keeps F w w') (hF : ∀ g, S g → g < w.heap.size → ¬ F g) (hS : ∀ g, S g → g < w.heap.size → S' g) : IsRef S' w' v d room := by
  obtain ⟨p, c, rfl, h⟩ := h
  exact ⟨p, c, rfl, h.keepS k hF hS⟩
theorem IsRef.keepN (h : IsRef S w v d room) (k : Keeps NoB w w') : IsRef S w' v d room := h.keepS k (fun _ _ _ h => h) (fun _ h _ => h)

/-- The cells of a row. -/
theorem RefAt.row (h : RefAt S w p c d) {i : Nat} (hi : i < d.length) :
    ∃ g off q n m, p = some ⟨g, off, none⟩ ∧ S g ∧ g < w.heap.size ∧ w.cell? ⟨g, off + i * 5, none⟩ = some (.int .i64 (nd d i).kind) ∧ w.cell? ⟨g, off + i * 5 + 1, none⟩ = some (.int .i64 (nd d i).mode) ∧
      w.cell? ⟨g, off + i * 5 + 2, none⟩ = some (.int .i64 (nd d i).holds) ∧ w.cell? ⟨g, off + i * 5 + 3, none⟩ = some (.string (nd d i).data) ∧ w.cell? ⟨g, off + i * 5 + 4, none⟩ = some (.slice q n m) ∧
      n = (nd d i).ents.length ∧ SlAt encEnt S w q m (nd d i).ents := by
  obtain ⟨rows, h1, h2, h3⟩ := h.rows
  obtain ⟨r, hr⟩ : ∃ r, rows[i]? = some r := ⟨_, List.getElem?_eq_getElem (by omega)⟩
  have hR := h3 i r hr
  obtain ⟨g, off, hp, hS, hg, hc⟩ := h2.at hr
  refine ⟨g, off, r.p, r.n, r.c, hp, hS, hg, ?_, ?_, ?_, ?_, ?_, hR.n, hR.ents⟩
  · have := hc 0 _ rfl; rw [hR.kind] at this; exact this
  · have := hc 1 _ rfl; rw [hR.mode, ← Nat.add_assoc] at this; exact this
  · have := hc 2 _ rfl; rw [hR.holds, ← Nat.add_assoc] at this; exact this
  · have := hc 3 _ rfl; rw [hR.data, ← Nat.add_assoc] at this; exact this
  · have := hc 4 _ rfl; rw [← Nat.add_assoc] at this; exact this

theorem RefAt.cap (h : RefAt S w p c d) : d.length ≤ c := by
  obtain ⟨rows, h1, h2, h3⟩ := h.rows
  have := h2.cap
  omega
theorem RefAt.max (h : RefAt S w p c d) : c ≤ maxLen := by
  obtain ⟨rows, h1, h2, h3⟩ := h.rows
  exact h2.max

end

end Go.Proofs.YtbmalnllppamdaaGreatDoor

/-
  Contracts of the reference for layer 4, the first part: Has, Links, Used, Count.
-/
namespace Go.Proofs.YtbmalnllppamdaaGreatDoor
open Go.RowKit
set_option maxRecDepth 100000
set_option maxHeartbeats 2000000

section
variable {S : Nat → Prop} {w : World} {p : Option Addr} {c : Nat} {d : Nds} {room : Int}

theorem r4has_any (h : RefAt S w p c d) (hz : nd d 0 = Nd.gone) (i : Int) :
    Calls Tryz.prog 83 #[refV p c d room, .int .i64 i] w fun e w' => e = .returned (.bool (decide (has d i))) ∧ Keeps NoB w w' := by
  unfold refV
  by_cases h1 : i < 1
  · have hno : ¬ has d i := fun hh => by
      have := has_range hh
      have h0 : i = 0 := by omega
      subst h0
      unfold has at hh; rw [hz] at hh; exact hh rfl
    rw [decide_eq_false hno]
    go_enter Tryz.func83, Tryz.ntmps83
    go_wp2
    go_ret
    exact ⟨rfl, (Keeps.refl _ _).alloc _⟩
  by_cases h2 : (d.length : Int) ≤ i
  · have hno : ¬ has d i := fun hh => by have := has_range hh; omega
    rw [decide_eq_false hno]
    go_enter Tryz.func83, Tryz.ntmps83
    go_wp2
    go_ret
    exact ⟨rfl, (Keeps.refl _ _).alloc _⟩
  obtain ⟨k, rfl⟩ : ∃ k : Nat, i = (k : Int) := ⟨i.toNat, by omega⟩
  have hk : k < d.length := by omega
  obtain ⟨g, off, q, n, m, rfl, hS, hg, c0, c1, c2, c3, c4, hn, hsl⟩ := h.row hk
  have hcap := h.cap
  have hmax := h.max
  unfold maxLen at hmax
  have e : decide (has d (k : Int)) = ((nd d k).kind != 0) := by
    unfold has
    by_cases hh : (nd d k).kind = 0
    · simp [hh]
    · simp [hh]
  rw [e]
  clear h e c1 c2 c3 c4 hsl hn hz
  generalize (nd d k).kind = kd at *
  go_enter Tryz.func83, Tryz.ntmps83
  go_wp2
  go_ret
  exact ⟨rfl, (Keeps.refl _ _).alloc _⟩

/-- How many of the first k nodes' entries name i. -/
def cntTo (d : Nds) (i : Int) (k : Nat) : Nat := cnt (d.take k) i

theorem sumBy_take (f : Nd → Nat) (d : Nds) (k : Nat) (hk : k < d.length) : sumBy f (d.take (k + 1)) = sumBy f (d.take k) + f (nd d k) := by
  have hg : d[k]? = some (nd d k) := by have := nd_get (d := d) (i := k) (by omega) (by omega); simpa using this
  rw [List.take_add_one, hg]
  simp only [Option.toList, sumBy_append]

theorem sumBy_le (f : Nd → Nat) (d : Nds) (k : Nat) : sumBy f (d.take k) ≤ sumBy f d := by
  have : sumBy f d = sumBy f (d.take k) + sumBy f (d.drop k) := by
    unfold sumBy
    rw [← List.sum_append_nat, ← List.map_append, List.take_append_drop]
  omega

theorem nms_take (es : List Ent) (i : Int) (k : Nat) (x : Ent) (h : es[k]? = some x) : nms i (es.take (k + 1)) = nms i (es.take k) + if x.2 = i then 1 else 0 := by
  unfold nms
  rw [List.take_add_one, h]
  simp [List.countP_append, List.countP_cons]

theorem entSize_part (es : List Ent) (k : Nat) : entSize (es.take k) ≤ entSize es := by
  have : entSize es = entSize (es.take k) + entSize (es.drop k) := by
    unfold entSize
    rw [← List.sum_append_nat, ← List.map_append, List.take_append_drop]
  omega

theorem nms_le (es : List Ent) (i : Int) : nms i es ≤ es.length := List.countP_le_length

theorem links_to (d : Nds) (hz : nd d 0 = Nd.gone) (h2 : 1 ≤ d.length) (i : Int) : links d i = (if i = 1 then 1 else 0) + cnt d i := rfl

theorem cnt_le_mass (d : Nds) (i : Int) : cnt d i ≤ mass d := by
  induction d with
  | nil => simp [cnt, sumBy]
  | cons a d ih =>
    simp only [cnt, mass, sumBy, List.map_cons, List.sum_cons] at ih ⊢
    have : namesOf i a ≤ mass1 a := by
      unfold namesOf mass1
      have := List.countP_le_length (p := fun e : Ent => decide (e.2 = i)) (l := a.ents)
      omega
    omega

theorem cnt_one (hz : nd d 0 = Nd.gone) (h2 : 1 ≤ d.length) (f : Nd → Nat) (hf : f Nd.gone = 0) : sumBy f (d.take 1) = 0 := by
  have := sumBy_take f d 0 (by omega)
  rw [show sumBy f (d.take 0) = 0 from rfl] at this
  rw [this]
  show 0 + f (nd d 0) = 0
  rw [hz, hf]

theorem r4links_any (h : RefAt S w p c d) (hz : nd d 0 = Nd.gone) (h2 : 1 ≤ d.length) (hs : smallD d) (i : Int) :
    Calls Tryz.prog 84 #[refV p c d room, .int .i64 i] w fun e w' => e = .returned (.int .i64 (links d i)) ∧ Keeps NoB w w' := by
  have hcap := h.cap
  have hmax := h.max
  unfold maxLen at hmax
  have hs0 := hs
  unfold smallD at hs
  have hcm := cnt_le_mass d i
  have hlen := mass_ge d
  have h0 := cnt_one hz h2 (namesOf i) rfl
  unfold refV
  obtain ⟨n0, hl, hn0⟩ : ∃ n0 : Nat, links d i = n0 + cnt d i ∧ (((i == 1) = true ∧ n0 = 1) ∨ ((i == 1) = false ∧ n0 = 0)) := by
    unfold links
    by_cases h1 : i = 1
    · exact ⟨1, by rw [if_pos h1], .inl ⟨by simpa using h1, rfl⟩⟩
    · exact ⟨0, by rw [if_neg h1], .inr ⟨by simpa using h1, rfl⟩⟩
  rw [hl]
  have hn1 : n0 ≤ 1 := by omega
  have H0 := Lib.hid h0
  have Hcm := Lib.hid hcm
  have Hlen := Lib.hid hlen
  clear hl hz h0 hcm hlen
  have key : ∀ (k : Nat), k < d.length → ∃ g off q n m, p = some ⟨g, off, none⟩ ∧ g < w.heap.size ∧ w.cell? ⟨g, off + k * 5 + 4, none⟩ = some (.slice q n m) ∧ n = (nd d k).ents.length ∧ SlAt encEnt S w q m (nd d k).ents ∧
      sumBy (namesOf i) (d.take (k + 1)) = sumBy (namesOf i) (d.take k) + nms i (nd d k).ents ∧ sumBy (namesOf i) (d.take (k + 1)) ≤ cnt d i ∧ (nd d k).ents.length < 4294967295 := fun k hk => by
    obtain ⟨g, off, q, n, m, hp, _, hg, _, _, _, _, c4, hn, hsl⟩ := h.row hk
    exact ⟨g, off, q, n, m, hp, hg, c4, hn, hsl, sumBy_take _ _ _ hk, sumBy_le _ _ _, nd_ents_len hs0 k⟩
  have Hk := Lib.hid key
  clear key h hs0
  rcases hn0 with ⟨h1, hn0⟩ | ⟨h1, hn0⟩
  all_goals
    go_enter Tryz.func84, Tryz.ntmps84
    have Hn0 := Lib.hid hn0
    clear hn0
    go_wp2
    clear h1
    go_loop [5, 6] (fun s x => ∃ k : Nat, 1 ≤ k ∧ k ≤ d.length ∧ x = .int .i64 k ∧ s = .int .i64 ((n0 + sumBy (namesOf i) (d.take k) : Nat) : Int)) (fun _ x => d.length - (intOf x).toNat)
    case atStart => exact ⟨1, Nat.le_refl _, h2, rfl, by rw [H0.out, Hn0.out]; rfl⟩
    case round =>
      obtain ⟨k, hk1, hk2, rfl, rfl⟩ := hrel
      by_cases hlt : k < d.length
      · obtain ⟨g, off, q, n, m, rfl, hg, c4, hn, hsl, hs1, hs2, hel⟩ := Hk.out k hlt
        have Hs1 := Lib.hid hs1
        have Hn := Lib.hid hn
        have hb1 : sumBy (namesOf i) (d.take (k + 1)) ≤ 2147483648 := by have := Hcm.out; omega
        rw [hs1] at hb1
        clear hs1 hs2
        subst hn
        clear Hn Hk
        generalize (nd d k).ents = es at *
        generalize sumBy (namesOf i) (d.take k) = A at *
        go_wp2
        go_loop [5, 7] (fun s x => ∃ t : Nat, t ≤ es.length ∧ x = .int .i64 t ∧ s = .int .i64 ((n0 + (A + nms i (es.take t)) : Nat) : Int)) (fun _ x => es.length - (intOf x).toNat)
        case atStart => exact ⟨0, Nat.zero_le _, rfl, by simp [nms]⟩
        case round =>
          obtain ⟨t, ht, rfl, rfl⟩ := hrel
          by_cases hlt2 : t < es.length
          · obtain ⟨x, hx⟩ : ∃ x, es[t]? = some x := ⟨_, List.getElem?_eq_getElem hlt2⟩
            obtain ⟨g2, off2, rfl, _, hg2, e0, e1⟩ := hsl.ent hx
            have Hx := Lib.hid (nms_take es i t x hx)
            have hle := nms_le (es.take t) i
            have hcap2 := hsl.cap
            have hmax2 := hsl.max
            unfold maxLen at hmax2
            rw [List.length_take] at hle
            clear hx
            by_cases he : x.2 = i
            · have hb : (x.2 == i) = true := by simpa using he
              have He := Lib.hid he
              clear he
              go_wp2
              go_round
              case rel => exact ⟨t + 1, by omega, by go_num, by rw [Hx.out, if_pos He.out]; go_num⟩
              case measure => simp [intOf]; omega
            · have hb : (x.2 == i) = false := by simpa using he
              have He := Lib.hid he
              clear he
              go_wp2
              go_round
              case rel => exact ⟨t + 1, by omega, by go_num, by rw [Hx.out, if_neg He.out]; rfl⟩
              case measure => simp [intOf]; omega
          · obtain rfl : t = es.length := by omega
            rw [List.take_length]
            go_wp2
            go_round
            case rel => exact ⟨k + 1, by omega, by omega, by go_num, by rw [Hs1.out]⟩
            case measure => simp [intOf]; omega
      · obtain rfl : k = d.length := by omega
        rw [List.take_length]
        go_wp2
        go_ret
        exact ⟨rfl, (Keeps.refl _ _).alloc _⟩

theorem r4used_any (h : RefAt S w p c d) (hz : nd d 0 = Nd.gone) (h2 : 1 ≤ d.length) (hI : DInv d) (hs : smallD d) :
    Calls Tryz.prog 45 #[refV p c d room] w fun e w' => e = .returned (.int .i64 (used d)) ∧ Keeps NoB w w' := by
  have hcap := h.cap
  have hmax := h.max
  unfold maxLen at hmax
  have hul := used_le2 hI hs
  have hlen := mass_ge d
  have h0 := cnt_one hz h2 room1 rfl
  have hs0 := hs
  unfold smallD at hs
  unfold refV
  have key : ∀ (k : Nat), k < d.length → ∃ g off q n m, p = some ⟨g, off, none⟩ ∧ g < w.heap.size ∧ w.cell? ⟨g, off + k * 5 + 3, none⟩ = some (.string (nd d k).data) ∧ w.cell? ⟨g, off + k * 5 + 4, none⟩ = some (.slice q n m) ∧ n = (nd d k).ents.length ∧ SlAt encEnt S w q m (nd d k).ents ∧
      sumBy room1 (d.take (k + 1)) = sumBy room1 (d.take k) + ((nd d k).data.size + entSize (nd d k).ents) ∧ sumBy room1 (d.take (k + 1)) ≤ used d ∧ (nd d k).ents.length < 4294967295 := fun k hk => by
    obtain ⟨g, off, q, n, m, hp, _, hg, _, _, _, c3, c4, hn, hsl⟩ := h.row hk
    exact ⟨g, off, q, n, m, hp, hg, c3, c4, hn, hsl, sumBy_take _ _ _ hk, sumBy_le _ _ _, nd_ents_len hs0 k⟩
  have Hk := Lib.hid key
  have H0 := Lib.hid h0
  have Hul := Lib.hid hul
  have Hlen := Lib.hid hlen
  clear key h hz h0 hul hlen hs0 hI
  go_enter Tryz.func45, Tryz.ntmps45
  go_wp2
  go_loop [3, 4] (fun s x => ∃ k : Nat, 1 ≤ k ∧ k ≤ d.length ∧ x = .int .i64 k ∧ s = .int .i64 ((sumBy room1 (d.take k) : Nat) : Int)) (fun _ x => d.length - (intOf x).toNat)
  case atStart => exact ⟨1, Nat.le_refl _, h2, rfl, by rw [H0.out]; rfl⟩
  case round =>
    obtain ⟨k, hk1, hk2, rfl, rfl⟩ := hrel
    by_cases hlt : k < d.length
    · obtain ⟨g, off, q, n, m, rfl, hg, c3, c4, hn, hsl, hs1, hs2, hel⟩ := Hk.out k hlt
      have Hs1 := Lib.hid hs1
      have hb1 : ((sumBy room1 (d.take (k + 1)) : Nat) : Int) ≤ 9007199254740992 := by have := Hul.out; omega
      rw [hs1] at hb1
      clear hs1 hs2
      subst hn
      clear Hk
      generalize (nd d k).ents = es at *
      generalize (nd d k).data = dt at *
      generalize sumBy room1 (d.take k) = A at *
      go_wp2
      go_loop [3, 5] (fun s x => ∃ t : Nat, t ≤ es.length ∧ x = .int .i64 t ∧ s = .int .i64 ((A + (dt.size + entSize (es.take t)) : Nat) : Int)) (fun _ x => es.length - (intOf x).toNat)
      case atStart => exact ⟨0, Nat.zero_le _, rfl, by simp [entSize]⟩
      case round =>
        obtain ⟨t, ht, rfl, rfl⟩ := hrel
        by_cases hlt2 : t < es.length
        · obtain ⟨x, hx⟩ : ∃ x, es[t]? = some x := ⟨_, List.getElem?_eq_getElem hlt2⟩
          obtain ⟨g2, off2, rfl, _, hg2, e0, e1⟩ := hsl.ent hx
          have hx1 := entSize_take es t x hx
          have hle := entSize_part es (t + 1)
          have hcap2 := hsl.cap
          have hmax2 := hsl.max
          unfold maxLen at hmax2
          rw [hx1] at hle
          have Hx := Lib.hid hx1
          clear hx hx1
          go_wp2
          go_round
          case rel => exact ⟨t + 1, by omega, by go_num, by rw [Hx.out]; go_num⟩
          case measure => simp [intOf]; omega
        · obtain rfl : t = es.length := by omega
          rw [List.take_length]
          go_wp2
          go_round
          case rel => exact ⟨k + 1, by omega, by omega, by go_num, by rw [Hs1.out]⟩
          case measure => simp [intOf]; omega
    · obtain rfl : k = d.length := by omega
      rw [List.take_length]
      go_wp2
      go_ret
      exact ⟨rfl, (Keeps.refl _ _).alloc _⟩

theorem count_le_mass (d : Nds) : count d ≤ d.length := by
  induction d with
  | nil => simp [count, sumBy]
  | cons a d ih =>
    simp only [count, sumBy, List.map_cons, List.sum_cons, List.length_cons] at ih ⊢
    have : here1 a ≤ 1 := by unfold here1; split <;> omega
    omega

theorem r4count_any (h : RefAt S w p c d) (hz : nd d 0 = Nd.gone) (h2 : 1 ≤ d.length) (hs : smallD d) :
    Calls Tryz.prog 233 #[refV p c d room] w fun e w' => e = .returned (.int .i64 (count d)) ∧ Keeps NoB w w' := by
  have hcap := h.cap
  have hmax := h.max
  unfold maxLen at hmax
  have hlen := mass_ge d
  have h0 := cnt_one hz h2 here1 rfl
  unfold smallD at hs
  have hcl := count_le_mass d
  have Hh := Lib.hid (fun (wx : World) (hk : Keeps NoB w wx) (k : Nat) => r4has_any (room := room) (h.keepN hk) hz (k : Int))
  have Hs := Lib.hid (fun (k : Nat) (hk : k < d.length) => (⟨sumBy_take here1 d k hk, sumBy_le here1 d (k + 1)⟩ : _ ∧ _))
  have H0 := Lib.hid h0
  have Hl := Lib.hid hlen
  clear h hz h0 hlen
  unfold refV at *
  go_enter Tryz.func233, Tryz.ntmps233
  go_wp2
  go_loopw [3, 4] (fun s x wr => ∃ k : Nat, 1 ≤ k ∧ k ≤ d.length ∧ x = .int .i64 k ∧ s = .int .i64 ((sumBy here1 (d.take k) : Nat) : Int) ∧ Keeps NoB (w.alloc (.cells #[.slice p d.length c, .int .i64 room] 31)) wr) (fun _ x _ => d.length - (intOf x).toNat)
  case atStart => exact ⟨1, Nat.le_refl _, h2, rfl, by rw [H0.out]; rfl, Keeps.refl _ _⟩
  case round =>
    rename_i wr
    obtain ⟨k, hk1, hk2, rfl, rfl, hkp⟩ := hrel
    have Hkp := Lib.hid hkp
    have Hk0 := Lib.hid (((Keeps.refl NoB w).alloc (.cells #[.slice p d.length c, .int .i64 room] 31)).trans hkp)
    have b0 : wr.cell? ⟨w.heap.size, 0, none⟩ = some (.slice p d.length c) := (hkp.cell (p := ⟨w.heap.size, 0, none⟩) (by simp) (fun h => h)).trans (cell_of_row _ _ _ _ _ (0, 0) (heap_alloc_new w _))
    have b1 : wr.cell? ⟨w.heap.size, 1, none⟩ = some (.int .i64 room) := (hkp.cell (p := ⟨w.heap.size, 1, none⟩) (by simp) (fun h => h)).trans (cell_of_row _ _ _ _ _ (0, 0) (heap_alloc_new w _))
    clear hkp
    by_cases hlt : k < d.length
    · obtain ⟨hs1, hs2⟩ := Hs.out k hlt
      have Hs1 := Lib.hid hs1
      have hb1 : sumBy here1 (d.take (k + 1)) ≤ 2147483648 := by have := Hl.out; have : sumBy here1 (d.take (k + 1)) ≤ d.length := Nat.le_trans hs2 hcl; omega
      rw [hs1] at hb1
      clear hs1 hs2
      have hh := Hh.out wr Hk0.out k
      by_cases he : has d (k : Int)
      · have e1 : here1 (nd d (k : Int)) = 1 := if_neg he
        rw [decide_eq_true he] at hh
        rw [e1] at hb1
        have HH := Lib.hid hh
        have E1 := Lib.hid e1
        clear hh e1
        go_wp2_with (go_at_call 83; refine HH.out.mono ?_; rintro e w2 ⟨rfl, hk2⟩)
        go_roundw
        case rel => exact ⟨k + 1, by omega, by omega, by go_num, by rw [Hs1.out, E1.out]; go_num, Hkp.out.trans hk2⟩
        case measure => simp [intOf]; omega
      · have e1 : here1 (nd d (k : Int)) = 0 := if_pos (not_has he)
        rw [decide_eq_false he] at hh
        rw [e1] at hb1
        have HH := Lib.hid hh
        have E1 := Lib.hid e1
        clear hh e1
        go_wp2_with (go_at_call 83; refine HH.out.mono ?_; rintro e w2 ⟨rfl, hk2⟩)
        go_roundw
        case rel => exact ⟨k + 1, by omega, by omega, by go_num, by rw [Hs1.out, E1.out]; rfl, Hkp.out.trans hk2⟩
        case measure => simp [intOf]; omega
    · obtain rfl : k = d.length := by omega
      rw [List.take_length]
      go_wp2
      go_ret
      exact ⟨rfl, Hk0.out⟩

end

end Go.Proofs.YtbmalnllppamdaaGreatDoor

/-
  Contracts of the reference for layer 4, the second part: what only reads.
-/
namespace Go.Proofs.YtbmalnllppamdaaGreatDoor
open Go.RowKit
set_option maxRecDepth 100000
set_option maxHeartbeats 2000000

/-- A row, in cells. -/
structure RowAt (S : Nat → Prop) (w : World) (g off k : Nat) (x : Nd) (q : Option Addr) (m : Nat) : Prop where
  lt : g < w.heap.size
  c0 : w.cell? ⟨g, off + k * 5, none⟩ = some (.int .i64 x.kind)
  c1 : w.cell? ⟨g, off + k * 5 + 1, none⟩ = some (.int .i64 x.mode)
  c2 : w.cell? ⟨g, off + k * 5 + 2, none⟩ = some (.int .i64 x.holds)
  c3 : w.cell? ⟨g, off + k * 5 + 3, none⟩ = some (.string x.data)
  c4 : w.cell? ⟨g, off + k * 5 + 4, none⟩ = some (.slice q x.ents.length m)
  sl : SlAt encEnt S w q m x.ents

theorem RowAt.keepN {S : Nat → Prop} {w w' : World} {g off k : Nat} {x : Nd} {q : Option Addr} {m : Nat} (h : RowAt S w g off k x q m) (hk : Keeps NoB w w') : RowAt S w' g off k x q m :=
  ⟨Nat.lt_of_lt_of_le h.lt hk.size, (hk.cell (p := ⟨g, _, none⟩) h.lt (fun h => h)).trans h.c0, (hk.cell (p := ⟨g, _, none⟩) h.lt (fun h => h)).trans h.c1, (hk.cell (p := ⟨g, _, none⟩) h.lt (fun h => h)).trans h.c2,
    (hk.cell (p := ⟨g, _, none⟩) h.lt (fun h => h)).trans h.c3, (hk.cell (p := ⟨g, _, none⟩) h.lt (fun h => h)).trans h.c4, h.sl.keepN hk⟩

theorem boxed {w w1 : World} {cs : Array Value} {T : TypeId} (hk : Keeps NoB (w.alloc (.cells cs T)) w1) (j : Nat) (v : Value) (hv : cs[j]? = some v) : w1.cell? ⟨w.heap.size, j, none⟩ = some v := by
  have hn := heap_alloc_new w (.cells cs T)
  have h4 := (hk.block w.heap.size (by simp) (fun h => h)).trans hn
  rw [cell_of_row w1 _ j _ T (0, 0) h4]
  exact hv

section
variable {S : Nat → Prop} {w : World} {p : Option Addr} {c : Nat} {d : Nds} {room : Int}

theorem RefAt.rowAt (h : RefAt S w p c d) {k : Nat} (hk : k < d.length) : ∃ g off q m, p = some ⟨g, off, none⟩ ∧ S g ∧ RowAt S w g off k (nd d k) q m := by
  obtain ⟨g, off, q, n, m, hp, hS, hg, c0, c1, c2, c3, c4, hn, hsl⟩ := h.row hk
  subst hn
  exact ⟨g, off, q, m, hp, hS, hg, c0, c1, c2, c3, c4, hsl⟩

theorem has_nat {i : Int} (h : has d i) : ∃ k : Nat, i = (k : Int) ∧ k < d.length := by
  have := has_range h
  exact ⟨i.toNat, by omega, this.2⟩

theorem r4folder_any (h : RefAt S w p c d) (hz : nd d 0 = Nd.gone) (i : Int) :
    Calls Tryz.prog 196 #[refV p c d room, .int .i64 i] w fun e w' => e = .returned (.int .i64 (folderErr d i)) ∧ Keeps NoB w w' := by
  have hcap := h.cap
  have hmax := h.max
  unfold maxLen at hmax
  have hal : Keeps NoB w (w.alloc (.cells #[.slice p d.length c, .int .i64 room] 31)) := (Keeps.refl _ _).alloc _
  have hh := r4has_any (room := room) (h.keepN hal) hz i
  unfold folderErr
  by_cases hi : has d i
  · rw [if_neg hi]
    rw [decide_eq_true hi] at hh
    obtain ⟨k, rfl, hk⟩ := has_nat hi
    obtain ⟨g, off, q, m, rfl, hS, hrow⟩ := h.rowAt hk
    have HR := Lib.hid hrow
    have HH := Lib.hid hh
    have HA := Lib.hid hal
    clear hh hrow h hz hi hal
    unfold refV at *
    by_cases h2 : (nd d (k : Int)).kind = 2
    · rw [if_pos h2]
      go_enter Tryz.func196, Tryz.ntmps196
      go_wp2_with (go_at_call 83; refine HH.out.mono ?_; rintro e w1 ⟨rfl, hk1⟩; have b0 : w1.cell? ⟨w.heap.size, 0, none⟩ = some (.slice (some ⟨g, off, none⟩) d.length c) := boxed hk1 0 _ rfl; have hr1 := HR.out.keepN (HA.out.trans hk1); have c0 := hr1.c0)
      go_ret
      exact ⟨rfl, HA.out.trans hk1⟩
    · rw [if_neg h2]
      go_enter Tryz.func196, Tryz.ntmps196
      go_wp2_with (go_at_call 83; refine HH.out.mono ?_; rintro e w1 ⟨rfl, hk1⟩; have b0 : w1.cell? ⟨w.heap.size, 0, none⟩ = some (.slice (some ⟨g, off, none⟩) d.length c) := boxed hk1 0 _ rfl; have hr1 := HR.out.keepN (HA.out.trans hk1); have c0 := hr1.c0)
      go_ret
      exact ⟨rfl, HA.out.trans hk1⟩
  · rw [if_pos (not_has hi)]
    rw [decide_eq_false hi] at hh
    have HH := Lib.hid hh
    have HA := Lib.hid hal
    clear hh h hz hi hal
    unfold refV at *
    go_enter Tryz.func196, Tryz.ntmps196
    go_wp2_with (go_at_call 83; refine HH.out.mono ?_; rintro e w1 ⟨rfl, hk1⟩)
    go_ret
    exact ⟨rfl, HA.out.trans hk1⟩

theorem r4file_any (h : RefAt S w p c d) (hI : DInv d) (i : Int) :
    Calls Tryz.prog 252 #[refV p c d room, .int .i64 i] w fun e w' => e = .returned (.int .i64 (fileErr d i)) ∧ Keeps NoB w w' := by
  have hcap := h.cap
  have hmax := h.max
  unfold maxLen at hmax
  have hal : Keeps NoB w (w.alloc (.cells #[.slice p d.length c, .int .i64 room] 31)) := (Keeps.refl _ _).alloc _
  have hh := r4has_any (room := room) (h.keepN hal) hI.zero i
  unfold fileErr
  by_cases hi : has d i
  · rw [if_neg hi]
    rw [decide_eq_true hi] at hh
    have hk0 := (hI.node i).kind0
    have hk3 := (hI.node i).kind3
    have hi0 : (nd d i).kind ≠ 0 := hi
    obtain ⟨k, rfl, hk⟩ := has_nat hi
    obtain ⟨g, off, q, m, rfl, hS, hrow⟩ := h.rowAt hk
    have HR := Lib.hid hrow
    have HH := Lib.hid hh
    have HA := Lib.hid hal
    have HC := Lib.hid (fun (w1 : World) (hk1 : Keeps NoB w w1) => (hrow.keepN hk1).c0)
    clear hh hrow h hi hal hI
    unfold refV at *
    have hcase : (nd d (k : Int)).kind = 2 ∨ (nd d (k : Int)).kind = 3 ∨ (nd d (k : Int)).kind = 1 := by omega
    clear hk0 hk3 hi0
    rcases hcase with h2 | h2 | h2
    all_goals
      rw [h2] at HC ⊢
      simp only [Int.reduceEq, if_true, if_false]
      clear h2
      go_enter Tryz.func252, Tryz.ntmps252
      go_wp2_with (go_at_call 83; refine HH.out.mono ?_; rintro e w1 ⟨rfl, hk1⟩; have b0 : w1.cell? ⟨w.heap.size, 0, none⟩ = some (.slice (some ⟨g, off, none⟩) d.length c) := boxed hk1 0 _ rfl; have hr1 := HR.out.keepN (HA.out.trans hk1); have c0 := HC.out _ (HA.out.trans hk1); have hgl := hr1.lt)
      go_ret
      exact ⟨rfl, HA.out.trans hk1⟩
  · rw [if_pos (not_has hi)]
    rw [decide_eq_false hi] at hh
    have HH := Lib.hid hh
    have HA := Lib.hid hal
    clear hh h hi hal hI
    unfold refV at *
    go_enter Tryz.func252, Tryz.ntmps252
    go_wp2_with (go_at_call 83; refine HH.out.mono ?_; rintro e w1 ⟨rfl, hk1⟩)
    go_ret
    exact ⟨rfl, HA.out.trans hk1⟩

theorem r4data_any (h : RefAt S w p c d) (hI : DInv d) (i : Int) :
    Calls Tryz.prog 254 #[refV p c d room, .int .i64 i] w fun e w' => e = .returned (.tuple #[.string (dataOf d i), .int .i64 (dataErr d i)]) ∧ Keeps NoB w w' := by
  have hcap := h.cap
  have hmax := h.max
  unfold maxLen at hmax
  have hal : Keeps NoB w (w.alloc (.cells #[.slice p d.length c, .int .i64 room] 31)) := (Keeps.refl _ _).alloc _
  have hh := r4file_any (room := room) (h.keepN hal) hI i
  have hf : (fileErr d i = 12 ∧ dataErr d i = 12 ∧ dataOf d i = ⟨#[]⟩) ∨ (fileErr d i = 15 ∧ dataErr d i = 15 ∧ dataOf d i = ⟨#[]⟩) ∨ ((fileErr d i = 0 ∨ fileErr d i = 43) ∧ dataErr d i = 0 ∧ dataOf d i = (nd d i).data ∧ has d i) := by
    unfold fileErr dataErr dataOf has
    by_cases h0 : (nd d i).kind = 0
    · simp [h0]
    · by_cases h2 : (nd d i).kind = 2
      · simp [h2]
      · by_cases h1 : (nd d i).kind = 1
        · simp [h1]
        · simp [h0, h1, h2]
  have HA := Lib.hid hal
  rcases hf with ⟨e1, e2, e3⟩ | ⟨e1, e2, e3⟩ | ⟨e1, e2, e3, hi⟩
  · rw [e1] at hh
    rw [e2, e3]
    have HH := Lib.hid hh
    clear hh h hal hI e1 e2 e3
    unfold refV at *
    go_enter Tryz.func254, Tryz.ntmps254
    go_wp2_with (go_at_call 252; refine HH.out.mono ?_; rintro e w1 ⟨rfl, hk1⟩)
    go_ret2
    exact ⟨rfl, HA.out.trans hk1⟩
  · rw [e1] at hh
    rw [e2, e3]
    have HH := Lib.hid hh
    clear hh h hal hI e1 e2 e3
    unfold refV at *
    go_enter Tryz.func254, Tryz.ntmps254
    go_wp2_with (go_at_call 252; refine HH.out.mono ?_; rintro e w1 ⟨rfl, hk1⟩)
    go_ret2
    exact ⟨rfl, HA.out.trans hk1⟩
  · rw [e2, e3]
    obtain ⟨k, rfl, hk⟩ := has_nat hi
    obtain ⟨g, off, q, m, rfl, hS, hrow⟩ := h.rowAt hk
    have HR := Lib.hid hrow
    rcases e1 with e1 | e1
    all_goals
      rw [e1] at hh
      have HH := Lib.hid hh
      clear hh h hal hI e1 e2 e3 hi hrow
      unfold refV at *
      go_enter Tryz.func254, Tryz.ntmps254
      go_wp2_with (go_at_call 252; refine HH.out.mono ?_; rintro e w1 ⟨rfl, hk1⟩; have b0 : w1.cell? ⟨w.heap.size, 0, none⟩ = some (.slice (some ⟨g, off, none⟩) d.length c) := boxed hk1 0 _ rfl; have hr1 := HR.out.keepN (HA.out.trans hk1); have c3 := hr1.c3; have hgl := hr1.lt)
      go_ret2
      exact ⟨rfl, HA.out.trans hk1⟩

theorem entGet_idx {es : List Ent} (hr : Rising es) (name : ByteArray) : (entGet es name = none ∧ entIdx es name = -1) ∨ ∃ (t : Nat) (x : Ent), es[t]? = some x ∧ entGet es name = some x.2 ∧ entIdx es name = (t : Int) := by
  cases hg : entGet es name with
  | none =>
    have hh : entHas es name = false := by rw [← entGet_isSome, hg]; rfl
    exact .inl ⟨rfl, by unfold entIdx; rw [hh]; rfl⟩
  | some k =>
    obtain ⟨h1, _⟩ := ent_split hr hg
    exact .inr ⟨_, _, h1, rfl, by unfold entIdx; rw [entGet_has hg]; rfl⟩

theorem r4look_any (h : RefAt S w p c d) (hI : DInv d) (i : Int) (name : ByteArray) :
    Calls Tryz.prog 200 #[refV p c d room, .int .i64 i, .string name] w fun e w' => e = .returned (.tuple #[.int .i64 (lookOf d i name), .int .i64 (lookErr d i name)]) ∧ Keeps NoB w w' := by
  have hcap := h.cap
  have hmax := h.max
  unfold maxLen at hmax
  have hal : Keeps NoB w (w.alloc (.cells #[.slice p d.length c, .int .i64 room] 31)) := (Keeps.refl _ _).alloc _
  have hh := r4folder_any (room := room) (h.keepN hal) hI.zero i
  have HA := Lib.hid hal
  by_cases f0 : folderErr d i = 0
  · obtain ⟨hi, hi2⟩ := folderErr_zero f0
    rw [f0] at hh
    have HH := Lib.hid hh
    have hris := (hI.node i).rising
    obtain ⟨k, rfl, hk⟩ := has_nat hi
    obtain ⟨g, off, q, m, rfl, hS, hrow⟩ := h.rowAt hk
    have hcap2 := hrow.sl.cap
    have hmax2 := hrow.sl.max
    unfold maxLen at hmax2
    have HF := Lib.hid (fun (w1 : World) (hk1 : Keeps NoB w w1) => r3find_any S w1 q m (nd d (k : Int)).ents name (hrow.sl.keepN hk1) hris)
    have HC := Lib.hid (fun (w1 : World) (hk1 : Keeps NoB w w1) => (⟨(hrow.keepN hk1).c4, (hrow.keepN hk1).lt⟩ : _ ∧ _))
    rcases entGet_idx hris name with ⟨g1, g2⟩ | ⟨t, x, hx, g1, g2⟩
    · have e1 : lookErr d k name = 12 := by unfold lookErr; rw [if_neg (by simpa using f0), g1]; rfl
      have e2 : lookOf d k name = 0 := by unfold lookOf; rw [if_neg (by simpa using f0), g1]; rfl
      rw [e1, e2]
      rw [g2] at HF
      clear hh h hal hI e1 e2 g1 g2 f0 hi hi2 hris hrow
      generalize (nd d (k : Int)).ents = es at *
      unfold refV at *
      go_enter Tryz.func200, Tryz.ntmps200
      go_wp2_with (first | (go_at_call 196; refine HH.out.mono ?_; rintro e w1 ⟨rfl, hk1⟩; have b0 : w1.cell? ⟨w.heap.size, 0, none⟩ = some (.slice (some ⟨g, off, none⟩) d.length c) := boxed hk1 0 _ rfl; obtain ⟨c4, hgl⟩ := HC.out _ (HA.out.trans hk1)) | (go_at_call 250; refine (HF.out _ (HA.out.trans hk1)).mono ?_; rintro e w2 ⟨rfl, rfl⟩))
      go_ret2
      exact ⟨rfl, HA.out.trans hk1⟩
    · have e1 : lookErr d k name = 0 := by unfold lookErr; rw [if_neg (by simpa using f0), g1]; rfl
      have e2 : lookOf d k name = x.2 := by unfold lookOf; rw [if_neg (by simpa using f0), g1]; rfl
      rw [e1, e2]
      rw [g2] at HF
      obtain ⟨g3, off3, rfl, _, hg3, a0, a1⟩ := hrow.sl.ent hx
      have ht := (List.getElem?_eq_some_iff.1 hx).1
      have HX := Lib.hid (fun (w1 : World) (hk1 : Keeps NoB w w1) => (⟨(hk1.cell (p := ⟨g3, _, none⟩) hg3 (fun h => h)).trans a1, Nat.lt_of_lt_of_le hg3 hk1.size⟩ : w1.cell? ⟨g3, _, none⟩ = _ ∧ g3 < w1.heap.size))
      clear hh h hal hI e1 e2 g1 g2 f0 hi hi2 hris hrow hx a0 a1
      generalize (nd d (k : Int)).ents = es at *
      unfold refV at *
      go_enter Tryz.func200, Tryz.ntmps200
      go_wp2_with (first | (go_at_call 196; refine HH.out.mono ?_; rintro e w1 ⟨rfl, hk1⟩; have b0 : w1.cell? ⟨w.heap.size, 0, none⟩ = some (.slice (some ⟨g, off, none⟩) d.length c) := boxed hk1 0 _ rfl; obtain ⟨c4, hgl⟩ := HC.out _ (HA.out.trans hk1); obtain ⟨x1, x2⟩ := HX.out _ (HA.out.trans hk1)) | (go_at_call 250; refine (HF.out _ (HA.out.trans hk1)).mono ?_; rintro e w2 ⟨rfl, rfl⟩))
      go_ret2
      exact ⟨rfl, HA.out.trans hk1⟩
  · have e1 : lookErr d i name = folderErr d i := if_pos f0
    have e2 : lookOf d i name = 0 := if_pos f0
    rw [e1, e2]
    have HH := Lib.hid hh
    clear hh h hal hI e1 e2
    unfold refV at *
    generalize folderErr d i = er at *
    go_enter Tryz.func200, Tryz.ntmps200
    go_wp2_with (go_at_call 196; refine HH.out.mono ?_; rintro e w1 ⟨rfl, hk1⟩)
    go_ret2
    exact ⟨rfl, HA.out.trans hk1⟩

end

end Go.Proofs.YtbmalnllppamdaaGreatDoor
