/-
  Contracts of the reference for layer 4, the third part: Up, Below, gives, noughts, Read.
-/
import Derived.Test.YtbcejodnjeklpaaDoorB13
import Derived.Test.YtbcejodnjeklpaaDoorB12
import Derived.Test.YtbcejodnjeklpaaDoorB09
import Derived.Handy
import Derived.Deep.RegionWith
import Derived.Deep.CutRange
import Derived.Laws.ResultCell
import Derived.Lib.SlFresh

set_option linter.unusedSimpArgs false
set_option linter.unusedVariables false

namespace Go.Proofs.YtbcejodnjeklpaaDoor
open Go.RowKit
set_option maxRecDepth 100000
set_option maxHeartbeats 2000000

section
variable {S : Nat → Prop} {w : World} {p : Option Addr} {c : Nat} {d : Nds} {room : Int}

theorem cnt_from (d : Nds) (i : Int) (hz : nd d 0 = Nd.gone) (h : ∀ k : Nat, 1 ≤ k → k < d.length → nms i (nd d k).ents = 0) : cnt d i = 0 := by
  rcases Nat.eq_zero_or_pos (cnt d i) with h0 | h0
  · exact h0
  · obtain ⟨j, e, he, hi⟩ := cnt_pos.1 h0
    have hr : 0 ≤ j ∧ j.toNat < d.length := by
      by_cases hh : 0 ≤ j ∧ j.toNat < d.length
      · exact hh
      · rw [nd_gone hh] at he; cases he
    have h1 : 1 ≤ j.toNat := by
      by_cases hj : j = 0
      · subst hj; rw [hz] at he; cases he
      · omega
    have := h j.toNat h1 hr.2
    rw [Int.toNat_of_nonneg hr.1] at this
    have := nms_pos.2 ⟨e, he, hi⟩
    omega

theorem r4up_any (h : RefAt S w p c d) (hz : nd d 0 = Nd.gone) (h2 : 1 ≤ d.length) (hs : smallD d) (i : Int) :
    Calls Tryd.prog 37 #[refV p c d room, .int .i64 i] w fun e w' => ∃ u, e = .returned (.int .i64 u) ∧ UpIs d i u ∧ Keeps NoB w w' := by
  have hcap := h.cap
  have hmax := h.max
  unfold maxLen at hmax
  have hs0 := hs
  unfold smallD at hs
  have hlen := mass_ge d
  have HZ := Lib.hid hz
  have key : ∀ (k : Nat), k < d.length → ∃ g off q m, p = some ⟨g, off, none⟩ ∧ RowAt S w g off k (nd d k) q m ∧ (nd d k).ents.length < 4294967295 := fun k hk => by
    obtain ⟨g, off, q, m, hp, _, hr⟩ := h.rowAt hk
    exact ⟨g, off, q, m, hp, hr, nd_ents_len hs0 k⟩
  have Hk := Lib.hid key
  have HA : Hid (Keeps NoB w (w.alloc (.cells #[.slice p d.length c, .int .i64 room] 28))) := (Keeps.refl _ _).alloc _
  clear key h hz hs0
  unfold refV
  go_enter Tryd.func37, Tryd.ntmps37
  go_wp2
  go_loop [5] (fun x => ∃ k : Nat, 1 ≤ k ∧ k ≤ d.length ∧ x = .int .i64 k ∧ ∀ k' : Nat, 1 ≤ k' → k' < k → nms i (nd d k').ents = 0) (fun x => d.length - (intOf x).toNat)
  case atStart => exact ⟨1, Nat.le_refl _, h2, rfl, fun k' h1 h2 => by omega⟩
  case round =>
    obtain ⟨k, hk1, hk2, rfl, hno⟩ := hrel
    have Hno := Lib.hid hno
    clear hno
    by_cases hlt : k < d.length
    · obtain ⟨g, off, q, m, rfl, hrow, hel⟩ := Hk.out k hlt
      have hsl := hrow.sl
      have c4 := hrow.c4
      have hg := hrow.lt
      clear hrow
      clear Hk
      have HE : Hid (∀ t : Nat, t ≤ (nd d (k : Int)).ents.length → True) := fun _ _ => trivial
      generalize hes : (nd d (k : Int)).ents = es at *
      have Hes := Lib.hid hes
      clear hes HE
      go_wp2
      go_loop [6] (fun x => ∃ t : Nat, t ≤ es.length ∧ x = .int .i64 t ∧ nms i (es.take t) = 0) (fun x => es.length - (intOf x).toNat)
      case atStart => exact ⟨0, Nat.zero_le _, rfl, rfl⟩
      case round =>
        obtain ⟨t, ht, rfl, hnm⟩ := hrel
        have Hnm := Lib.hid hnm
        clear hnm
        by_cases hlt2 : t < es.length
        · obtain ⟨x, hx⟩ : ∃ x, es[t]? = some x := ⟨_, List.getElem?_eq_getElem hlt2⟩
          obtain ⟨g2, off2, rfl, _, hg2, e0, e1⟩ := hsl.ent hx
          have Hx := Lib.hid hx
          have hcap2 := hsl.cap
          have hmax2 := hsl.max
          unfold maxLen at hmax2
          clear hx
          by_cases he : x.2 = i
          · have hb : (x.2 == i) = true := by simpa using he
            have He := Lib.hid he
            clear he
            go_wp2
            go_ret
            refine ⟨(k : Int), rfl, .inr ⟨x, ?_, He.out⟩, HA.out⟩
            rw [Hes.out]
            exact List.mem_of_getElem? Hx.out
          · have hb : (x.2 == i) = false := by simpa using he
            have He := Lib.hid he
            clear he
            go_wp2
            go_round
            case rel => exact ⟨t + 1, by omega, by go_num, by rw [nms_take es i t x Hx.out, if_neg He.out, Hnm.out]⟩
            case measure => simp [intOf]; omega
        · obtain rfl : t = es.length := by omega
          go_wp2
          go_round
          case rel =>
            refine ⟨k + 1, by omega, by omega, by go_num, fun k' h1 h3 => ?_⟩
            by_cases e : k' = k
            · subst e
              have := Hnm.out
              rw [List.take_length] at this
              rw [Hes.out]; exact this
            · exact Hno.out k' h1 (by omega)
          case measure => simp [intOf]; omega
    · obtain rfl : k = d.length := by omega
      go_wp2
      go_ret
      exact ⟨1, rfl, .inl ⟨cnt_from d i HZ.out Hno.out, rfl⟩, HA.out⟩

/-- It answers whether P. -/
def SaysIf (w w' : World) (e : Ending) (P : Prop) : Prop := ∃ b : Bool, e = .returned (.bool b) ∧ (b = true ↔ P) ∧ Keeps NoB w w'

theorem noughts_none : (⟨#[]⟩ : ByteArray) = noughts 0 := rfl
theorem noughts_next (k : Nat) : noughts k ++ ⟨#[0]⟩ = noughts (k + 1) := by
  apply ByteArray.ext
  simp [noughts, Array.replicate_succ]

theorem extract_size {s : ByteArray} {a k : Nat} (h : k = 0 ∨ a + k ≤ s.size) : (s.extract a (a + k)).size = k := by
  rw [ByteArray.size_extract]
  omega

theorem empty_eq {a b : ByteArray} (ha : a.size = 0) (hb : b.size = 0) : a = b :=
  (ByteArray.ext (Array.eq_empty_of_size_eq_zero ha) : a = ⟨#[]⟩).trans (ByteArray.ext (Array.eq_empty_of_size_eq_zero hb) : b = ⟨#[]⟩).symm

theorem cut_end {s : ByteArray} {X Y k : Nat} (h : k = 0 ∨ X + k ≤ s.size) (h2 : k ≤ Y) (h3 : ¬ (X + k < s.size ∧ k < Y)) : s.extract X (X + k) = cut s X Y := by
  unfold cut
  rw [Int.toNat_natCast, Int.toNat_natCast]
  by_cases hX : X < s.size
  · rw [show min X s.size = X by omega, show min Y (s.size - X) = k by omega]
  · have hk : k = 0 := by omega
    subst hk
    refine empty_eq (extract_size (.inl rfl)) ?_
    rw [ByteArray.size_extract]
    omega

theorem cut_next {s : ByteArray} {a k : Nat} (h : a + k < s.size) : s.extract a (a + k) ++ s.extract (a + k) (a + k + 1) = s.extract a (a + (k + 1)) := by
  apply ByteArray.ext
  apply Array.toList_inj.1
  simp
  omega

end

end Go.Proofs.YtbcejodnjeklpaaDoor

/-
  Contracts of the reference for layer 4, the fourth part: put, free.
-/
namespace Go.Proofs.YtbcejodnjeklpaaDoor
open Go.RowKit
set_option maxRecDepth 100000
set_option maxHeartbeats 400000

def noRow : RRow := ⟨0, 0, 0, ByteArray.empty, none, 0, 0⟩
theorem tRow : ElemT Tryd.prog encRow 26 33 noRow 64 :=
  .of (.agg #[.int .i64 0, .int .i64 0, .int .i64 0, .string ByteArray.empty, .slice none 0 0]) Tryd.underlying26 (by kernel_rfl) rfl

/-- Variables laid one behind another, still as they were. -/
theorem boxes2 {w w1 : World} {a b : Array Value} {ta tb : TypeId} (hk : Keeps NoB ((w.alloc (.cells a ta)).alloc (.cells b tb)) w1) :
    (∀ j v, a[j]? = some v → w1.cell? ⟨w.heap.size, j, none⟩ = some v) ∧ (∀ j v, b[j]? = some v → w1.cell? ⟨w.heap.size + 1, j, none⟩ = some v) ∧
    (∀ j, w1.frozen? ⟨w.heap.size, j, none⟩ = false) ∧ (∀ j, w1.frozen? ⟨w.heap.size + 1, j, none⟩ = false) ∧ w.heap.size + 2 ≤ w1.heap.size := by
  have n1 := heap_alloc_new w (.cells a ta)
  have n2 := heap_alloc_new (w.alloc (.cells a ta)) (.cells b tb)
  have s1 : (w.alloc (.cells a ta)).heap.size = w.heap.size + 1 := by simp
  have s2 : ((w.alloc (.cells a ta)).alloc (.cells b tb)).heap.size = w.heap.size + 2 := by simp
  rw [s1] at n2
  have n1' := (Below.heap_alloc (w.alloc (.cells a ta)) (.cells b tb) w.heap.size (by omega)).trans n1
  have b1 := (hk.block w.heap.size (by omega) (fun h => h)).trans n1'
  have b2 := (hk.block (w.heap.size + 1) (by omega) (fun h => h)).trans n2
  have := hk.size
  exact ⟨fun j v hv => by rw [cell_of_row w1 _ j _ ta (0, 0) b1]; exact hv, fun j v hv => by rw [cell_of_row w1 _ j _ tb (0, 0) b2]; exact hv, fun j => frozen_of_row w1 _ j _ ta b1, fun j => frozen_of_row w1 _ j _ tb b2, by omega⟩

theorem boxes3 {w w1 : World} {a b e : Array Value} {ta tb te : TypeId} (hk : Keeps NoB (((w.alloc (.cells a ta)).alloc (.cells b tb)).alloc (.cells e te)) w1) :
    (∀ j v, a[j]? = some v → w1.cell? ⟨w.heap.size, j, none⟩ = some v) ∧ (∀ j v, b[j]? = some v → w1.cell? ⟨w.heap.size + 1, j, none⟩ = some v) ∧ (∀ j v, e[j]? = some v → w1.cell? ⟨w.heap.size + 2, j, none⟩ = some v) ∧
    (∀ j, w1.frozen? ⟨w.heap.size, j, none⟩ = false) ∧ (∀ j, w1.frozen? ⟨w.heap.size + 1, j, none⟩ = false) ∧ (∀ j, w1.frozen? ⟨w.heap.size + 2, j, none⟩ = false) ∧ w.heap.size + 3 ≤ w1.heap.size := by
  have s2 : ((w.alloc (.cells a ta)).alloc (.cells b tb)).heap.size = w.heap.size + 2 := by simp
  have n3 := heap_alloc_new ((w.alloc (.cells a ta)).alloc (.cells b tb)) (.cells e te)
  rw [s2] at n3
  have s3 : (((w.alloc (.cells a ta)).alloc (.cells b tb)).alloc (.cells e te)).heap.size = w.heap.size + 3 := by simp
  have b3 := (hk.block (w.heap.size + 2) (by omega) (fun h => h)).trans n3
  obtain ⟨h1, h2, h3, h4, _⟩ := boxes2 (((Keeps.refl NoB _).alloc _).trans hk)
  have := hk.size
  exact ⟨h1, h2, fun j v hv => by rw [cell_of_row w1 _ j _ te (0, 0) b3]; exact hv, h3, h4, fun j => frozen_of_row w1 _ j _ te b3, by omega⟩

theorem results_cell_one {fn : Func} {p : Tmp} {ty : TypeId} (h : fn.results = #[.cell p ty]) (tmps : Array Value) (P : Program) (w : World) :
    (results fn tmps).run P w = ((asAddr (tmps.getD p undef)).run P w).andThen fun a w₁ => (loadVar ty a).run P w₁ := by
  simp only [results, h]
  simp [Sem.run_bind, Result.andThen]

/-- Five cells stored one behind another. -/
def set5 (w : World) (g o : Nat) (v0 v1 v2 v3 v4 : Value) : World :=
  ((((w.setCell ⟨g, o, none⟩ v0).setCell ⟨g, o + 1, none⟩ v1).setCell ⟨g, o + 2, none⟩ v2).setCell ⟨g, o + 3, none⟩ v3).setCell ⟨g, o + 4, none⟩ v4

theorem set5_keeps (w : World) (g o : Nat) (v0 v1 v2 v3 v4 : Value) : Keeps (fun x => x = g) w (set5 w g o v0 v1 v2 v3 v4) := by
  unfold set5
  exact ((((keeps_set w ⟨g, o, none⟩ v0).trans (keeps_set _ ⟨g, o + 1, none⟩ v1)).trans (keeps_set _ ⟨g, o + 2, none⟩ v2)).trans (keeps_set _ ⟨g, o + 3, none⟩ v3)).trans (keeps_set _ ⟨g, o + 4, none⟩ v4)

theorem set5_size (w : World) (g o : Nat) (v0 v1 v2 v3 v4 : Value) : (set5 w g o v0 v1 v2 v3 v4).heap.size = w.heap.size := by unfold set5; simp [World.setCell]

theorem Own.row5 {e : TypeId} {S : Nat → Prop} {w : World} {g cp k : Nat} {rows : List RRow} {r0 : RRow} (h : Own encRow e S w (.slice (some ⟨g, 0, none⟩) rows.length cp) rows) (hk : rows[k]? = some r0) (r : RRow) :
    Own encRow e S (set5 w g (k * 5) (.int .i64 r.kind) (.int .i64 r.mode) (.int .i64 r.holds) (.string r.data) (.slice r.p r.n r.c)) (.slice (some ⟨g, 0, none⟩) rows.length cp) (rows.set k r) := by
  obtain ⟨hkl, hke⟩ := List.getElem?_eq_some_iff.1 hk
  have ln : ∀ (x : RRow), (rows.set k x).length = rows.length := fun x => by simp
  have gt : ∀ (x : RRow), (rows.set k x)[k]? = some x := fun x => by simp [hkl]
  have st : ∀ (x y : RRow), (rows.set k x).set k y = rows.set k y := fun x y => by simp
  have h1 := h.stored k 0 r0 ⟨r.kind, r0.mode, r0.holds, r0.data, r0.p, r0.n, r0.c⟩ (.int .i64 r.kind) hk (by decide) rfl
  rw [← ln ⟨r.kind, r0.mode, r0.holds, r0.data, r0.p, r0.n, r0.c⟩] at h1
  have h2 := h1.stored k 1 _ ⟨r.kind, r.mode, r0.holds, r0.data, r0.p, r0.n, r0.c⟩ (.int .i64 r.mode) (gt _) (by decide) rfl
  rw [st, ln, ← ln ⟨r.kind, r.mode, r0.holds, r0.data, r0.p, r0.n, r0.c⟩] at h2
  have h3 := h2.stored k 2 _ ⟨r.kind, r.mode, r.holds, r0.data, r0.p, r0.n, r0.c⟩ (.int .i64 r.holds) (gt _) (by decide) rfl
  rw [st, ln, ← ln ⟨r.kind, r.mode, r.holds, r0.data, r0.p, r0.n, r0.c⟩] at h3
  have h4 := h3.stored k 3 _ ⟨r.kind, r.mode, r.holds, r.data, r0.p, r0.n, r0.c⟩ (.string r.data) (gt _) (by decide) rfl
  rw [st, ln, ← ln ⟨r.kind, r.mode, r.holds, r.data, r0.p, r0.n, r0.c⟩] at h4
  have h5 := h4.stored k 4 _ r (.slice r.p r.n r.c) (gt _) (by decide) rfl
  rw [st, ln] at h5
  exact h5

theorem upd_nat_get {d : Nds} {k : Nat} (hk : k < d.length) (x : Nd) (j : Int) : nd (upd d (k : Int) x) j = if j = k then x else nd d j := nd_upd (by omega) (by omega) x j

section
variable {S : Nat → Prop} {w : World} {p : Option Addr} {c : Nat} {d : Nds} {room : Int}

theorem r4put_any (h : RefAt S w p c d) (hS : ∀ g, w.heap.size ≤ g → S g) (k : Nat) (hk : k < d.length) (hl : d.length ≤ 4294967296) (x : Nd) (q : Option Addr) (m : Nat) (hx : SlAt encEnt S w q m x.ents) :
    Calls Tryd.prog 47 #[refV p c d room, .int .i64 k, .agg #[.int .i64 x.kind, .int .i64 x.mode, .int .i64 x.holds, .string x.data, .slice q x.ents.length m]] w fun e w' =>
      ∃ v', e = .returned v' ∧ IsRef S w' v' (upd d k x) room ∧ Keeps NoB w w' := by
  have hcap := h.cap
  have hmax := h.max
  obtain ⟨rows, hr1, hr2, hr3⟩ := h.rows
  have hm2 := hmax
  unfold maxLen at hmax
  unfold refV
  have HSl := fun (wx : World) (hk : Keeps NoB w wx) => (⟨p, c, by rw [hr1], hr2.keepN hk⟩ : Sl encRow S wx (.slice p d.length c) rows)
  obtain ⟨v', w', happ, ho', hk', hf'⟩ := run_append (S := fun g => w.heap.size ≤ g) tRow 26 (Own.nil encRow 33 (fun g => w.heap.size ≤ g) _)
    (HSl (((w.alloc (.cells #[.slice p d.length c, .int .i64 room] 28)).alloc (.cells #[.int .i64 x.kind, .int .i64 x.mode, .int .i64 x.holds, .string x.data, .slice q x.ents.length m] 33)).alloc (.cells #[.slice none 0 0, .int .i64 0] 28))
      ((((Keeps.refl NoB w).alloc _).alloc _).alloc _)) (by simp; omega) (by simp; omega) (by simp; omega)
  rw [List.nil_append] at ho'
  have hkk := hk'.mono (G := NoB) (fun _ _ h => by cases h)
  obtain ⟨a1, a2, a3, z1, z2, z3, z4⟩ := boxes3 hkk
  obtain ⟨g, cp, cur, hv, hSg, hg, hcp, hcm, hsz, htk⟩ := ho'.row (by omega)
  subst hv
  have A0 : w'.cell? ⟨w.heap.size, 0, none⟩ = some (.slice p d.length c) := a1 0 _ rfl
  have A1 : w'.cell? ⟨w.heap.size, 1, none⟩ = some (.int .i64 room) := a1 1 _ rfl
  have B0 : w'.cell? ⟨w.heap.size + 1, 0, none⟩ = some (.int .i64 x.kind) := a2 0 _ rfl
  have B1 : w'.cell? ⟨w.heap.size + 1, 1, none⟩ = some (.int .i64 x.mode) := a2 1 _ rfl
  have B2 : w'.cell? ⟨w.heap.size + 1, 2, none⟩ = some (.int .i64 x.holds) := a2 2 _ rfl
  have B3 : w'.cell? ⟨w.heap.size + 1, 3, none⟩ = some (.string x.data) := a2 3 _ rfl
  have B4 : w'.cell? ⟨w.heap.size + 1, 4, none⟩ = some (.slice q x.ents.length m) := a2 4 _ rfl
  have C0 : w'.cell? ⟨w.heap.size + 2, 0, none⟩ = some (.slice none 0 0) := a3 0 _ rfl
  have C1 : w'.cell? ⟨w.heap.size + 2, 1, none⟩ = some (.int .i64 0) := a3 1 _ rfl
  have zg : ∀ j, w'.frozen? ⟨g, j, none⟩ = false := fun j => frozen_of_row w' g j cur _ hg
  have hgg : w.heap.size + 3 ≤ g := by
    rcases hf' g rfl with e | e
    · cases e
    · simpa using e
  have ne0 : ¬ g = w.heap.size := by omega
  have ne1 : ¬ g = w.heap.size + 1 := by omega
  have ne2 : ¬ g = w.heap.size + 2 := by omega
  obtain ⟨r0, hr0⟩ : ∃ r, rows[k]? = some r := ⟨_, List.getElem?_eq_getElem (by omega)⟩
  obtain ⟨_, _, hgo, _, _, hcc⟩ := ho'.at.at hr0
  cases hgo
  have D0 : w'.cell? ⟨g, k * 5, none⟩ = some (.int .i64 r0.kind) := by have := hcc 0 _ rfl; rwa [Nat.zero_add] at this
  have D1 : w'.cell? ⟨g, k * 5 + 1, none⟩ = some (.int .i64 r0.mode) := by have := hcc 1 _ rfl; rwa [Nat.zero_add] at this
  have D2 : w'.cell? ⟨g, k * 5 + 2, none⟩ = some (.int .i64 r0.holds) := by have := hcc 2 _ rfl; rwa [Nat.zero_add] at this
  have D3 : w'.cell? ⟨g, k * 5 + 3, none⟩ = some (.string r0.data) := by have := hcc 3 _ rfl; rwa [Nat.zero_add] at this
  have D4 : w'.cell? ⟨g, k * 5 + 4, none⟩ = some (.slice r0.p r0.n r0.c) := by have := hcc 4 _ rfl; rwa [Nat.zero_add] at this
  rw [hr1] at happ
  have hcp' : d.length ≤ cp := by omega
  unfold maxLen at hcm
  have HO := Lib.hid ho'
  have HKK := Lib.hid hkk
  have Hr0 := Lib.hid hr0
  have Hgg := Lib.hid hgg
  have Happ := Lib.hid happ
  have Hr1 := Lib.hid hr1
  have Hr3 := Lib.hid hr3
  clear ho' hkk hr0 hcc hk' hf' a1 a2 a3 htk hsz hSg hg hgg hr1 hr2 hr3 h hm2 HSl happ hcp
  go_enter Tryd.func47, Tryd.ntmps47
  have ne0' : ¬ w.heap.size = g := by omega
  have ne1' : ¬ w.heap.size + 1 = g := by omega
  have ne2' : ¬ w.heap.size + 2 = g := by omega
  go_upto_region 4 with (at_builtin; go_loud (refine Lib.wpList_append_run_sl _ rfl (.tmp 8) (.tmp 10) _ rfl _ _ rfl rfl Happ.out ?_))
  change Code.wp _ _ _ _ (set5 w' g (k * 5) (.int .i64 x.kind) (.int .i64 x.mode) (.int .i64 x.holds) (.string x.data) (.slice q x.ents.length m))
  have hk5 := set5_keeps w' g (k * 5) (.int .i64 x.kind) (.int .i64 x.mode) (.int .i64 x.holds) (.string x.data) (.slice q x.ents.length m)
  have hO5 := HO.out.row5 Hr0.out ⟨x.kind, x.mode, x.holds, x.data, q, x.ents.length, m⟩
  have hs5 := set5_size w' g (k * 5) (.int .i64 x.kind) (.int .i64 x.mode) (.int .i64 x.holds) (.string x.data) (.slice q x.ents.length m)
  generalize set5 w' g (k * 5) (.int .i64 x.kind) (.int .i64 x.mode) (.int .i64 x.holds) (.string x.data) (.slice q x.ents.length m) = w5 at *
  have A0' := (hk5.cell (p := ⟨w.heap.size, 0, none⟩) (by simp only; omega) ne0').trans A0
  have A1' := (hk5.cell (p := ⟨w.heap.size, 1, none⟩) (by simp only; omega) ne0').trans A1
  have C0' := (hk5.cell (p := ⟨w.heap.size + 2, 0, none⟩) (by simp only; omega) ne2').trans C0
  have C1' := (hk5.cell (p := ⟨w.heap.size + 2, 1, none⟩) (by simp only; omega) ne2').trans C1
  have z1' := fun j => (hk5.frozen (p := ⟨w.heap.size, j, none⟩) (by simp only; omega) ne0').trans (z1 j)
  have z3' := fun j => (hk5.frozen (p := ⟨w.heap.size + 2, j, none⟩) (by simp only; omega) ne2').trans (z3 j)
  have HK5 := Lib.hid hk5
  have HO5 := Lib.hid hO5
  have Hs5 := Lib.hid hs5
  have Hne := Lib.hid (⟨ne0, ne1, ne2⟩ : _ ∧ _ ∧ _)
  have Hx := Lib.hid hx
  clear A0 A1 B0 B1 B2 B3 B4 C0 C1 D0 D1 D2 D3 D4 z1 z2 z3 zg hk5 hO5 hs5 HO Happ ne0 ne1 ne2 ne0' ne1' ne2' hx
  go_wp2
  have hkw : Keeps NoB w w' := ((((Keeps.refl NoB w).alloc _).alloc _).alloc _).trans HKK.out
  have hw5 : Keeps NoB w w5 := hkw.step HK5.out (fun b hb => .inr (by have := Hgg.out; omega))
  (try simp only [Exit.inBlock, Exit.then])
  refine bodyPost_ret (v := .agg #[.slice (some ⟨g, 0, none⟩) d.length cp, .int .i64 room]) ?_ rfl ⟨_, rfl, ?_⟩
  · rw [results_cell_one rfl]
    go_simp
  · have k6 : Keeps (fun b => b = w.heap.size ∨ b = w.heap.size + 2) w5 (((w5.setCell ⟨w.heap.size, 0, none⟩ (.slice (some ⟨g, 0, none⟩) d.length cp)).setCell ⟨w.heap.size + 1 + 1, 0, none⟩ (.slice (some ⟨g, 0, none⟩) d.length cp)).setCell ⟨w.heap.size + 1 + 1, 1, none⟩ (.int .i64 room)) :=
      ((((keeps_set w5 ⟨w.heap.size, 0, none⟩ _).mono (fun b _ hb => .inl hb)).trans ((keeps_set _ ⟨w.heap.size + 1 + 1, 0, none⟩ _).mono (fun b _ hb => .inr hb))).trans ((keeps_set _ ⟨w.heap.size + 1 + 1, 1, none⟩ _).mono (fun b _ hb => .inr hb)))
    have kF : Keeps NoB w (((w5.setCell ⟨w.heap.size, 0, none⟩ (.slice (some ⟨g, 0, none⟩) d.length cp)).setCell ⟨w.heap.size + 1 + 1, 0, none⟩ (.slice (some ⟨g, 0, none⟩) d.length cp)).setCell ⟨w.heap.size + 1 + 1, 1, none⟩ (.int .i64 room)) :=
      hw5.step k6 (fun b hb => .inr (by omega))
    refine ⟨⟨some ⟨g, 0, none⟩, cp, by unfold refV; rw [upd_length], ⟨rows.set k ⟨x.kind, x.mode, x.holds, x.data, q, x.ents.length, m⟩, by rw [List.length_set, upd_length]; exact Hr1.out, ?_, fun i r hi => ?_⟩⟩, kF⟩
    · have h1 := HO5.out.keep k6 (fun b hb e => by
        simp [Value.ownBlock] at hb
        have := Hne.out
        subst hb
        rcases e with e | e
        · exact this.1 e
        · exact this.2.2 e)
      have h2 := h1.sl.mono (fun b hb _ => hS b hb)
      have : (rows.set k (⟨x.kind, x.mode, x.holds, x.data, q, x.ents.length, m⟩ : RRow)).length = rows.length := by simp
      rw [← this] at h2
      exact h2.at'
    · rw [List.getElem?_set] at hi
      rw [upd_nat_get hk]
      split at hi
      · next e =>
        subst e
        rw [if_pos rfl]
        split at hi
        · cases hi
          exact ⟨rfl, rfl, rfl, rfl, rfl, Hx.out.keepN kF⟩
        · cases hi
      · next e =>
        rw [if_neg (by omega)]
        exact (Hr3.out i r hi).keepS kF (fun _ _ _ h => h) (fun _ h _ => h)

end

end Go.Proofs.YtbcejodnjeklpaaDoor
