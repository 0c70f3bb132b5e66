/-
  Contracts of the reference for layer 4, the third part: Up, Below, gives, noughts, Read.
-/
import Derived.Test.YtbmalnllppamdaaGreatDoorB13
import Derived.Test.YtbmalnllppamdaaGreatDoorB12
import Derived.Test.YtbmalnllppamdaaGreatDoorB09
import Derived.Handy
import Derived.Deep.RegionWith
import Derived.Deep.CutRange
import Derived.Laws.ResultCell
import Derived.Lib.SlFresh

set_option linter.unusedSimpArgs false
set_option linter.unusedVariables false

namespace Go.Proofs.YtbmalnllppamdaaGreatDoor
open Go.RowKit
set_option maxRecDepth 100000
set_option maxHeartbeats 2000000

section
variable {S : Nat → Prop} {w : World} {p : Option Addr} {c : Nat} {d : Nds} {room : Int}

theorem cnt_from (d : Nds) (i : Int) (hz : nd d 0 = Nd.gone) (h : ∀ k : Nat, 1 ≤ k → k < d.length → nms i (nd d k).ents = 0) : cnt d i = 0 := by
  rcases Nat.eq_zero_or_pos (cnt d i) with h0 | h0
  · exact h0
  · obtain ⟨j, e, he, hi⟩ := cnt_pos.1 h0
    have hr : 0 ≤ j ∧ j.toNat < d.length := by
      by_cases hh : 0 ≤ j ∧ j.toNat < d.length
      · exact hh
      · rw [nd_gone hh] at he; cases he
    have h1 : 1 ≤ j.toNat := by
      by_cases hj : j = 0
      · subst hj; rw [hz] at he; cases he
      · omega
    have := h j.toNat h1 hr.2
    rw [Int.toNat_of_nonneg hr.1] at this
    have := nms_pos.2 ⟨e, he, hi⟩
    omega

theorem r4up_any (h : RefAt S w p c d) (hz : nd d 0 = Nd.gone) (h2 : 1 ≤ d.length) (hs : smallD d) (i : Int) :
    Calls Tryz.prog 156 #[refV p c d room, .int .i64 i] w fun e w' => ∃ u, e = .returned (.int .i64 u) ∧ UpIs d i u ∧ Keeps NoB w w' := by
  have hcap := h.cap
  have hmax := h.max
  unfold maxLen at hmax
  have hs0 := hs
  unfold smallD at hs
  have hlen := mass_ge d
  have HZ := Lib.hid hz
  have key : ∀ (k : Nat), k < d.length → ∃ g off q m, p = some ⟨g, off, none⟩ ∧ RowAt S w g off k (nd d k) q m ∧ (nd d k).ents.length < 4294967295 := fun k hk => by
    obtain ⟨g, off, q, m, hp, _, hr⟩ := h.rowAt hk
    exact ⟨g, off, q, m, hp, hr, nd_ents_len hs0 k⟩
  have Hk := Lib.hid key
  have HA : Hid (Keeps NoB w (w.alloc (.cells #[.slice p d.length c, .int .i64 room] 31))) := (Keeps.refl _ _).alloc _
  clear key h hz hs0
  unfold refV
  go_enter Tryz.func156, Tryz.ntmps156
  go_wp2
  go_loop [5] (fun x => ∃ k : Nat, 1 ≤ k ∧ k ≤ d.length ∧ x = .int .i64 k ∧ ∀ k' : Nat, 1 ≤ k' → k' < k → nms i (nd d k').ents = 0) (fun x => d.length - (intOf x).toNat)
  case atStart => exact ⟨1, Nat.le_refl _, h2, rfl, fun k' h1 h2 => by omega⟩
  case round =>
    obtain ⟨k, hk1, hk2, rfl, hno⟩ := hrel
    have Hno := Lib.hid hno
    clear hno
    by_cases hlt : k < d.length
    · obtain ⟨g, off, q, m, rfl, hrow, hel⟩ := Hk.out k hlt
      have hsl := hrow.sl
      have c4 := hrow.c4
      have hg := hrow.lt
      clear hrow
      clear Hk
      have HE : Hid (∀ t : Nat, t ≤ (nd d (k : Int)).ents.length → True) := fun _ _ => trivial
      generalize hes : (nd d (k : Int)).ents = es at *
      have Hes := Lib.hid hes
      clear hes HE
      go_wp2
      go_loop [6] (fun x => ∃ t : Nat, t ≤ es.length ∧ x = .int .i64 t ∧ nms i (es.take t) = 0) (fun x => es.length - (intOf x).toNat)
      case atStart => exact ⟨0, Nat.zero_le _, rfl, rfl⟩
      case round =>
        obtain ⟨t, ht, rfl, hnm⟩ := hrel
        have Hnm := Lib.hid hnm
        clear hnm
        by_cases hlt2 : t < es.length
        · obtain ⟨x, hx⟩ : ∃ x, es[t]? = some x := ⟨_, List.getElem?_eq_getElem hlt2⟩
          obtain ⟨g2, off2, rfl, _, hg2, e0, e1⟩ := hsl.ent hx
          have Hx := Lib.hid hx
          have hcap2 := hsl.cap
          have hmax2 := hsl.max
          unfold maxLen at hmax2
          clear hx
          by_cases he : x.2 = i
          · have hb : (x.2 == i) = true := by simpa using he
            have He := Lib.hid he
            clear he
            go_wp2
            go_ret
            refine ⟨(k : Int), rfl, .inr ⟨x, ?_, He.out⟩, HA.out⟩
            rw [Hes.out]
            exact List.mem_of_getElem? Hx.out
          · have hb : (x.2 == i) = false := by simpa using he
            have He := Lib.hid he
            clear he
            go_wp2
            go_round
            case rel => exact ⟨t + 1, by omega, by go_num, by rw [nms_take es i t x Hx.out, if_neg He.out, Hnm.out]⟩
            case measure => simp [intOf]; omega
        · obtain rfl : t = es.length := by omega
          go_wp2
          go_round
          case rel =>
            refine ⟨k + 1, by omega, by omega, by go_num, fun k' h1 h3 => ?_⟩
            by_cases e : k' = k
            · subst e
              have := Hnm.out
              rw [List.take_length] at this
              rw [Hes.out]; exact this
            · exact Hno.out k' h1 (by omega)
          case measure => simp [intOf]; omega
    · obtain rfl : k = d.length := by omega
      go_wp2
      go_ret
      exact ⟨1, rfl, .inl ⟨cnt_from d i HZ.out Hno.out, rfl⟩, HA.out⟩

/-- It answers whether P. -/
def SaysIf (w w' : World) (e : Ending) (P : Prop) : Prop := ∃ b : Bool, e = .returned (.bool b) ∧ (b = true ↔ P) ∧ Keeps NoB w w'

theorem r4below_any (h : RefAt S w p c d) (hI : DInv d) (hs : smallD d) (i top : Int) (hi : (nd d i).kind = 2) (ht : top ≠ 1) :
    Calls Tryz.prog 208 #[refV p c d room, .int .i64 i, .int .i64 top] w fun e w' => SaysIf w w' e (Above d top i) := by
  have hcap := h.cap
  have hmax := h.max
  unfold maxLen at hmax
  have hlen := mass_ge d
  have h2 := hI.two
  have HU := Lib.hid (fun (w1 : World) (hk : Keeps NoB w w1) (x : Int) => r4up_any (room := room) (h.keepN hk) hI.zero (by omega) hs x)
  have HI := Lib.hid hI
  have hanc := ancs_le d i
  unfold smallD at hs
  clear h hI
  unfold refV at *
  have HT : Hid (¬ Above d top 1) := fun ha => ht ((above_top (no_par_root HI.out)).1 ha)
  go_enter Tryz.func208, Tryz.ntmps208
  go_wp2
  go_loopw [1, 7] (fun x s wr => ∃ (n : Nat) (id : Int), n ≤ d.length ∧ s = .int .i64 n ∧ x = .int .i64 id ∧ (nd d id).kind = 2 ∧ (Above d top id ↔ Above d top i) ∧ (n + ancs d id ≤ d.length ∨ id = 1) ∧ Keeps NoB (w.alloc (.cells #[.slice p d.length c, .int .i64 room] 31)) wr) (fun _ s _ => d.length + 1 - (intOf s).toNat)
  case atStart => exact ⟨0, i, Nat.zero_le _, rfl, rfl, hi, Iff.rfl, .inl (by omega), Keeps.refl _ _⟩
  case round =>
    rename_i wr
    obtain ⟨n, id, hn, rfl, rfl, hk2, hiff, hm, hkp⟩ := hrel
    have Hkp := Lib.hid hkp
    have Hk0 := Lib.hid (((Keeps.refl NoB w).alloc (.cells #[.slice p d.length c, .int .i64 room] 31)).trans hkp)
    have b0 : wr.cell? ⟨w.heap.size, 0, none⟩ = some (.slice p d.length c) := boxed hkp 0 _ rfl
    have b1 : wr.cell? ⟨w.heap.size, 1, none⟩ = some (.int .i64 room) := boxed hkp 1 _ rfl
    have Hiff := Lib.hid hiff
    have Hm := Lib.hid hm
    have Hk2 := Lib.hid hk2
    have hu := HU.out wr Hk0.out id
    clear hkp hiff hm hk2
    by_cases e1 : id = top
    · have hb : (id == top) = true := by simpa using e1
      have He := Lib.hid e1
      clear e1 hu
      go_wp2
      go_ret
      refine ⟨true, rfl, ⟨fun _ => Hiff.out.1 ?_, fun _ => rfl⟩, Hk0.out⟩
      rw [He.out]; exact .self
    · have hb : (id == top) = false := by simpa using e1
      have He := Lib.hid e1
      clear e1
      by_cases e2 : id = 1
      · subst e2
        clear hu
        go_wp2
        go_ret
        exact ⟨false, rfl, ⟨(fun h => by cases h), fun h => absurd (Hiff.out.2 h) HT.out⟩, Hk0.out⟩
      · have hb1 : (id == 1) = false := by simpa using e2
        have Hne := Lib.hid e2
        have HUn := Lib.hid hu
        clear e2 hu
        go_wp2_with (go_at_call 156; refine HUn.out.mono ?_; rintro e w2 ⟨u, rfl, hup, hk2⟩)
        have hms := Hm.out.resolve_right Hne.out
        have hps := ancs_pos (setE_pos HI.out Hk2.out)
        go_roundw
        case rel =>
          rcases hup.par Hk2.out with ⟨hc, rfl⟩ | hp
          · refine ⟨n + 1, 1, by omega, by go_num, rfl, HI.out.root, ?_, .inr rfl, Hkp.out.trans hk2⟩
            have h3 := above_top (k := top) (no_par_cnt hc)
            exact ⟨fun h => absurd h HT.out, fun h => absurd (h3.1 (Hiff.out.2 h)) (fun e => He.out e.symm)⟩
          · have hl := ancs_lt HI.out hp
            refine ⟨n + 1, u, by omega, by go_num, rfl, hp.dir HI.out, ?_, .inl (by omega), Hkp.out.trans hk2⟩
            rw [← Hiff.out, above_par HI.out hp (fun e => He.out e.symm)]
        case measure => simp [intOf]; omega

theorem r4gives_any (h : RefAt S w p c d) (k old : Int) (hk : has d k) (ho : has d old) :
    Calls Tryz.prog 209 #[refV p c d room, .int .i64 k, .int .i64 old] w fun e w' => e = .returned (.int .i64 (givesErr d k old)) ∧ Keeps NoB w w' := by
  have hcap := h.cap
  have hmax := h.max
  unfold maxLen at hmax
  have HA : Hid (Keeps NoB w (w.alloc (.cells #[.slice p d.length c, .int .i64 room] 31))) := (Keeps.refl _ _).alloc _
  obtain ⟨k, rfl, hk1⟩ := has_nat hk
  obtain ⟨o, rfl, ho1⟩ := has_nat ho
  obtain ⟨g, off, q, m, rfl, hS, hrow⟩ := h.rowAt hk1
  obtain ⟨g', off', q', m', hp', _, hrow'⟩ := h.rowAt ho1
  cases hp'
  have c0 := hrow.c0
  have d0 := hrow'.c0
  have d4 := hrow'.c4
  have hgl := hrow.lt
  have hcap2 := hrow'.sl.cap
  have hmax2 := hrow'.sl.max
  unfold maxLen at hmax2
  unfold givesErr
  have he : (nd d (o : Int)).ents ≠ [] ↔ 0 < (nd d (o : Int)).ents.length := by rw [List.length_pos_iff]
  simp only [he]
  clear h hrow hrow' he hk ho
  generalize (nd d (o : Int)).ents.length = ln at *
  generalize (nd d (k : Int)).kind = kk at *
  generalize (nd d (o : Int)).kind = ko at *
  unfold refV
  have hb : ∀ x : Int, (x = 2 ∧ (x == 2) = true ∧ (x != 2) = false) ∨ (x ≠ 2 ∧ (x == 2) = false ∧ (x != 2) = true) := fun x => by
    by_cases h : x = 2
    · exact .inl ⟨h, by simpa using h, by simpa using h⟩
    · exact .inr ⟨h, by simpa using h, by simpa using h⟩
  have hl : (0 < ln ∧ (0 : Int) < (ln : Int)) ∨ (¬ 0 < ln ∧ ¬ (0 : Int) < (ln : Int)) := by omega
  rcases hb kk with ⟨a1, a2, a3⟩ | ⟨a1, a2, a3⟩ <;> rcases hb ko with ⟨b1, b2, b3⟩ | ⟨b1, b2, b3⟩ <;> rcases hl with ⟨l1, l2⟩ | ⟨l1, l2⟩
  all_goals
    simp only [a1, b1, l1, ne_eq, not_true_eq_false, not_false_eq_true, and_true, and_false, true_and, false_and, if_true, if_false]
    clear a1 b1 l1 hb
    go_enter Tryz.func209, Tryz.ntmps209
    go_wp2
    go_ret
    exact ⟨rfl, HA.out⟩

theorem noughts_none : (⟨#[]⟩ : ByteArray) = noughts 0 := rfl
theorem noughts_next (k : Nat) : noughts k ++ ⟨#[0]⟩ = noughts (k + 1) := by
  apply ByteArray.ext
  simp [noughts, Array.replicate_succ]

theorem r4noughts_any (w : World) (n : Nat) (hn : n ≤ 4294967296) : Calls Tryz.prog 253 #[.int .i64 n] w fun e w' => e = .returned (.string (noughts n)) ∧ w = w' := by
  have hnx := Lib.hid noughts_next
  go_enter Tryz.func253, Tryz.ntmps253
  go_wp2
  go_loop [3, 4] (fun s x => ∃ k : Nat, k ≤ n ∧ x = .int .i64 k ∧ s = .string (noughts k)) (fun _ x => n - (intOf x).toNat)
  case atStart => exact ⟨0, Nat.zero_le _, rfl, rfl⟩
  case round =>
    obtain ⟨k, hk, rfl, rfl⟩ := hrel
    by_cases hlt : k < n
    · have hx := hnx.out k
      have hz := noughts_size k
      go_wp2
      go_round
      case rel => exact ⟨k + 1, by omega, by go_num, by rw [← hx]⟩
      case measure => simp [intOf]; omega
    · obtain rfl : k = n := by omega
      go_wp2
      go_ret
      exact ⟨rfl, rfl⟩

theorem extract_size {s : ByteArray} {a k : Nat} (h : k = 0 ∨ a + k ≤ s.size) : (s.extract a (a + k)).size = k := by
  rw [ByteArray.size_extract]
  omega

theorem empty_eq {a b : ByteArray} (ha : a.size = 0) (hb : b.size = 0) : a = b :=
  (ByteArray.ext (Array.eq_empty_of_size_eq_zero ha) : a = ⟨#[]⟩).trans (ByteArray.ext (Array.eq_empty_of_size_eq_zero hb) : b = ⟨#[]⟩).symm

theorem cut_end {s : ByteArray} {X Y k : Nat} (h : k = 0 ∨ X + k ≤ s.size) (h2 : k ≤ Y) (h3 : ¬ (X + k < s.size ∧ k < Y)) : s.extract X (X + k) = cut s X Y := by
  unfold cut
  rw [Int.toNat_natCast, Int.toNat_natCast]
  by_cases hX : X < s.size
  · rw [show min X s.size = X by omega, show min Y (s.size - X) = k by omega]
  · have hk : k = 0 := by omega
    subst hk
    refine empty_eq (extract_size (.inl rfl)) ?_
    rw [ByteArray.size_extract]
    omega

theorem cut_next {s : ByteArray} {a k : Nat} (h : a + k < s.size) : s.extract a (a + k) ++ s.extract (a + k) (a + k + 1) = s.extract a (a + (k + 1)) := by
  apply ByteArray.ext
  apply Array.toList_inj.1
  simp
  omega

theorem r4read_any (h : RefAt S w p c d) (hI : DInv d) (i x y : Int) :
    Calls Tryz.prog 217 #[refV p c d room, .int .i64 i, .int .i64 x, .int .i64 y] w fun e w' => e = .returned (.tuple #[.string (readOf d i x y), .int .i64 (readErr d i x y)]) ∧ Keeps NoB w w' := by
  have hal : Keeps NoB w (w.alloc (.cells #[.slice p d.length c, .int .i64 room] 31)) := (Keeps.refl _ _).alloc _
  have HA := Lib.hid hal
  have hd := r4data_any (room := room) (h.keepN hal) hI i
  have hsz : (dataOf d i).size ≤ 4194304 := by
    unfold dataOf
    split
    · decide
    · split
      · decide
      · exact (hI.node i).data
  clear h hal hI
  unfold refV at *
  by_cases he : dataErr d i = 0
  · rw [he] at hd
    by_cases h1 : x < 0
    · have e1 : readErr d i x y = 10 := by simp [readErr, he, h1]
      have e2 : readOf d i x y = ⟨#[]⟩ := by simp [readOf, e1]
      rw [e2, e1]
      clear he e1 e2
      generalize dataOf d i = s at *
      have HD := Lib.hid hd
      clear hd
      go_enter Tryz.func217, Tryz.ntmps217
      go_wp2_with (go_at_call 254; refine HD.out.mono ?_; rintro e w1 ⟨rfl, hk1⟩)
      go_ret2
      exact ⟨rfl, HA.out.trans hk1⟩
    · by_cases h2 : y < 0
      · have e1 : readErr d i x y = 10 := by simp [readErr, he, h1, h2]
        have e2 : readOf d i x y = ⟨#[]⟩ := by simp [readOf, e1]
        rw [e2, e1]
        clear he e1 e2
        generalize dataOf d i = s at *
        have HD := Lib.hid hd
        clear hd
        go_enter Tryz.func217, Tryz.ntmps217
        go_wp2_with (go_at_call 254; refine HD.out.mono ?_; rintro e w1 ⟨rfl, hk1⟩)
        go_ret2
        exact ⟨rfl, HA.out.trans hk1⟩
      · have e1 : readErr d i x y = 0 := by simp [readErr, he, h1, h2]
        have e2 : readOf d i x y = cut (dataOf d i) x y := by simp [readOf, e1]
        rw [e2, e1]
        clear e1 e2 he
        generalize dataOf d i = s at *
        have HD := Lib.hid hd
        clear hd
        go_enter Tryz.func217, Tryz.ntmps217
        go_wp2_with (go_at_call 254; refine HD.out.mono ?_; rintro e w1 ⟨rfl, hk1⟩)
        obtain ⟨X, rfl⟩ : ∃ X : Nat, x = (X : Int) := ⟨x.toNat, by omega⟩
        obtain ⟨Y, rfl⟩ : ∃ Y : Nat, y = (Y : Int) := ⟨y.toNat, by omega⟩
        have HN := Lib.hid (fun (k : Nat) (h : X + k < s.size) => cut_next (s := s) (a := X) (k := k) h)
        have HS := Lib.hid (fun (k : Nat) (h : k = 0 ∨ X + k ≤ s.size) => extract_size (s := s) (a := X) (k := k) h)
        have HC := Lib.hid (fun (k : Nat) (h : k = 0 ∨ X + k ≤ s.size) (h2 : k ≤ Y) (h3 : ¬ (X + k < s.size ∧ k < Y)) => cut_end (s := s) (X := X) (Y := Y) (k := k) h h2 h3)
        have HK := Lib.hid (HA.out.trans hk1)
        clear h1 h2 HD
        go_loop [12, 13] (fun o z => ∃ k : Nat, (k = 0 ∨ X + k ≤ s.size) ∧ k ≤ Y ∧ z = .int .i64 ((X + k : Nat) : Int) ∧ o = .string (s.extract X (X + k))) (fun _ z => s.size - (intOf z).toNat)
        case atStart =>
          refine ⟨0, .inl rfl, Nat.zero_le _, rfl, ?_⟩
          rw [show s.extract X (X + 0) = ⟨#[]⟩ from ByteArray.ext (Array.eq_empty_of_size_eq_zero (HS.out 0 (.inl rfl)))]
        case round =>
          obtain ⟨k, hk, hkY, rfl, rfl⟩ := hrel
          have hsz2 := HS.out k hk
          by_cases hlt : X + k < s.size
          · by_cases hlt2 : k < Y
            · have hn := HN.out k hlt
              go_wp2
              go_round
              case rel => exact ⟨k + 1, by omega, by omega, by go_num, by rw [← hn]⟩
              case measure => simp [intOf]; omega
            · have hcc := Lib.hid (HC.out k hk hkY (fun h => hlt2 h.2))
              clear hk
              generalize s.extract X (X + k) = o at *
              go_wp2
              go_ret2
              exact ⟨by rw [← hcc.out]; rfl, HK.out⟩
          · have hcc := Lib.hid (HC.out k hk hkY (fun h => hlt h.1))
            clear hk
            generalize s.extract X (X + k) = o at *
            go_wp2
            go_ret2
            exact ⟨by rw [← hcc.out]; rfl, HK.out⟩
  · have e1 : readErr d i x y = dataErr d i := by simp [readErr, he]
    have e2 : readOf d i x y = ⟨#[]⟩ := by simp [readOf, e1, he]
    rw [e2, e1]
    clear e1 e2
    generalize dataErr d i = er at *
    generalize dataOf d i = s at *
    have HD := Lib.hid hd
    clear hd
    go_enter Tryz.func217, Tryz.ntmps217
    go_wp2_with (go_at_call 254; refine HD.out.mono ?_; rintro e w1 ⟨rfl, hk1⟩)
    go_ret2
    exact ⟨rfl, HA.out.trans hk1⟩

end

end Go.Proofs.YtbmalnllppamdaaGreatDoor

/-
  Contracts of the reference for layer 4, the fourth part: put, free.
-/
namespace Go.Proofs.YtbmalnllppamdaaGreatDoor
open Go.RowKit
set_option maxRecDepth 100000
set_option maxHeartbeats 400000

def noRow : RRow := ⟨0, 0, 0, ByteArray.empty, none, 0, 0⟩
theorem tRow : ElemT Tryz.prog encRow 29 99 noRow 64 :=
  .of (.agg #[.int .i64 0, .int .i64 0, .int .i64 0, .string ByteArray.empty, .slice none 0 0]) Tryz.underlying29 (by kernel_rfl) rfl

/-- Variables laid one behind another, still as they were. -/
theorem boxes2 {w w1 : World} {a b : Array Value} {ta tb : TypeId} (hk : Keeps NoB ((w.alloc (.cells a ta)).alloc (.cells b tb)) w1) :
    (∀ j v, a[j]? = some v → w1.cell? ⟨w.heap.size, j, none⟩ = some v) ∧ (∀ j v, b[j]? = some v → w1.cell? ⟨w.heap.size + 1, j, none⟩ = some v) ∧
    (∀ j, w1.frozen? ⟨w.heap.size, j, none⟩ = false) ∧ (∀ j, w1.frozen? ⟨w.heap.size + 1, j, none⟩ = false) ∧ w.heap.size + 2 ≤ w1.heap.size := by
  have n1 := heap_alloc_new w (.cells a ta)
  have n2 := heap_alloc_new (w.alloc (.cells a ta)) (.cells b tb)
  have s1 : (w.alloc (.cells a ta)).heap.size = w.heap.size + 1 := by simp
  have s2 : ((w.alloc (.cells a ta)).alloc (.cells b tb)).heap.size = w.heap.size + 2 := by simp
  rw [s1] at n2
  have n1' := (Below.heap_alloc (w.alloc (.cells a ta)) (.cells b tb) w.heap.size (by omega)).trans n1
  have b1 := (hk.block w.heap.size (by omega) (fun h => h)).trans n1'
  have b2 := (hk.block (w.heap.size + 1) (by omega) (fun h => h)).trans n2
  have := hk.size
  exact ⟨fun j v hv => by rw [cell_of_row w1 _ j _ ta (0, 0) b1]; exact hv, fun j v hv => by rw [cell_of_row w1 _ j _ tb (0, 0) b2]; exact hv, fun j => frozen_of_row w1 _ j _ ta b1, fun j => frozen_of_row w1 _ j _ tb b2, by omega⟩

theorem boxes3 {w w1 : World} {a b e : Array Value} {ta tb te : TypeId} (hk : Keeps NoB (((w.alloc (.cells a ta)).alloc (.cells b tb)).alloc (.cells e te)) w1) :
    (∀ j v, a[j]? = some v → w1.cell? ⟨w.heap.size, j, none⟩ = some v) ∧ (∀ j v, b[j]? = some v → w1.cell? ⟨w.heap.size + 1, j, none⟩ = some v) ∧ (∀ j v, e[j]? = some v → w1.cell? ⟨w.heap.size + 2, j, none⟩ = some v) ∧
    (∀ j, w1.frozen? ⟨w.heap.size, j, none⟩ = false) ∧ (∀ j, w1.frozen? ⟨w.heap.size + 1, j, none⟩ = false) ∧ (∀ j, w1.frozen? ⟨w.heap.size + 2, j, none⟩ = false) ∧ w.heap.size + 3 ≤ w1.heap.size := by
  have s2 : ((w.alloc (.cells a ta)).alloc (.cells b tb)).heap.size = w.heap.size + 2 := by simp
  have n3 := heap_alloc_new ((w.alloc (.cells a ta)).alloc (.cells b tb)) (.cells e te)
  rw [s2] at n3
  have s3 : (((w.alloc (.cells a ta)).alloc (.cells b tb)).alloc (.cells e te)).heap.size = w.heap.size + 3 := by simp
  have b3 := (hk.block (w.heap.size + 2) (by omega) (fun h => h)).trans n3
  obtain ⟨h1, h2, h3, h4, _⟩ := boxes2 (((Keeps.refl NoB _).alloc _).trans hk)
  have := hk.size
  exact ⟨h1, h2, fun j v hv => by rw [cell_of_row w1 _ j _ te (0, 0) b3]; exact hv, h3, h4, fun j => frozen_of_row w1 _ j _ te b3, by omega⟩

theorem results_cell_one {fn : Func} {p : Tmp} {ty : TypeId} (h : fn.results = #[.cell p ty]) (tmps : Array Value) (P : Program) (w : World) :
    (results fn tmps).run P w = ((asAddr (tmps.getD p undef)).run P w).andThen fun a w₁ => (loadVar ty a).run P w₁ := by
  simp only [results, h]
  simp [Sem.run_bind, Result.andThen]

/-- Five cells stored one behind another. -/
def set5 (w : World) (g o : Nat) (v0 v1 v2 v3 v4 : Value) : World :=
  ((((w.setCell ⟨g, o, none⟩ v0).setCell ⟨g, o + 1, none⟩ v1).setCell ⟨g, o + 2, none⟩ v2).setCell ⟨g, o + 3, none⟩ v3).setCell ⟨g, o + 4, none⟩ v4

theorem set5_keeps (w : World) (g o : Nat) (v0 v1 v2 v3 v4 : Value) : Keeps (fun x => x = g) w (set5 w g o v0 v1 v2 v3 v4) := by
  unfold set5
  exact ((((keeps_set w ⟨g, o, none⟩ v0).trans (keeps_set _ ⟨g, o + 1, none⟩ v1)).trans (keeps_set _ ⟨g, o + 2, none⟩ v2)).trans (keeps_set _ ⟨g, o + 3, none⟩ v3)).trans (keeps_set _ ⟨g, o + 4, none⟩ v4)

theorem set5_size (w : World) (g o : Nat) (v0 v1 v2 v3 v4 : Value) : (set5 w g o v0 v1 v2 v3 v4).heap.size = w.heap.size := by unfold set5; simp [World.setCell]

theorem Own.row5 {e : TypeId} {S : Nat → Prop} {w : World} {g cp k : Nat} {rows : List RRow} {r0 : RRow} (h : Own encRow e S w (.slice (some ⟨g, 0, none⟩) rows.length cp) rows) (hk : rows[k]? = some r0) (r : RRow) :
    Own encRow e S (set5 w g (k * 5) (.int .i64 r.kind) (.int .i64 r.mode) (.int .i64 r.holds) (.string r.data) (.slice r.p r.n r.c)) (.slice (some ⟨g, 0, none⟩) rows.length cp) (rows.set k r) := by
  obtain ⟨hkl, hke⟩ := List.getElem?_eq_some_iff.1 hk
  have ln : ∀ (x : RRow), (rows.set k x).length = rows.length := fun x => by simp
  have gt : ∀ (x : RRow), (rows.set k x)[k]? = some x := fun x => by simp [hkl]
  have st : ∀ (x y : RRow), (rows.set k x).set k y = rows.set k y := fun x y => by simp
  have h1 := h.stored k 0 r0 ⟨r.kind, r0.mode, r0.holds, r0.data, r0.p, r0.n, r0.c⟩ (.int .i64 r.kind) hk (by decide) rfl
  rw [← ln ⟨r.kind, r0.mode, r0.holds, r0.data, r0.p, r0.n, r0.c⟩] at h1
  have h2 := h1.stored k 1 _ ⟨r.kind, r.mode, r0.holds, r0.data, r0.p, r0.n, r0.c⟩ (.int .i64 r.mode) (gt _) (by decide) rfl
  rw [st, ln, ← ln ⟨r.kind, r.mode, r0.holds, r0.data, r0.p, r0.n, r0.c⟩] at h2
  have h3 := h2.stored k 2 _ ⟨r.kind, r.mode, r.holds, r0.data, r0.p, r0.n, r0.c⟩ (.int .i64 r.holds) (gt _) (by decide) rfl
  rw [st, ln, ← ln ⟨r.kind, r.mode, r.holds, r0.data, r0.p, r0.n, r0.c⟩] at h3
  have h4 := h3.stored k 3 _ ⟨r.kind, r.mode, r.holds, r.data, r0.p, r0.n, r0.c⟩ (.string r.data) (gt _) (by decide) rfl
  rw [st, ln, ← ln ⟨r.kind, r.mode, r.holds, r.data, r0.p, r0.n, r0.c⟩] at h4
  have h5 := h4.stored k 4 _ r (.slice r.p r.n r.c) (gt _) (by decide) rfl
  rw [st, ln] at h5
  exact h5

theorem upd_nat_get {d : Nds} {k : Nat} (hk : k < d.length) (x : Nd) (j : Int) : nd (upd d (k : Int) x) j = if j = k then x else nd d j := nd_upd (by omega) (by omega) x j

section
variable {S : Nat → Prop} {w : World} {p : Option Addr} {c : Nat} {d : Nds} {room : Int}

theorem r4put_any (h : RefAt S w p c d) (hS : ∀ g, w.heap.size ≤ g → S g) (k : Nat) (hk : k < d.length) (hl : d.length ≤ 4294967296) (x : Nd) (q : Option Addr) (m : Nat) (hx : SlAt encEnt S w q m x.ents) :
    Calls Tryz.prog 182 #[refV p c d room, .int .i64 k, .agg #[.int .i64 x.kind, .int .i64 x.mode, .int .i64 x.holds, .string x.data, .slice q x.ents.length m]] w fun e w' =>
      ∃ v', e = .returned v' ∧ IsRef S w' v' (upd d k x) room ∧ Keeps NoB w w' := by
  have hcap := h.cap
  have hmax := h.max
  obtain ⟨rows, hr1, hr2, hr3⟩ := h.rows
  have hm2 := hmax
  unfold maxLen at hmax
  unfold refV
  have HSl := fun (wx : World) (hk : Keeps NoB w wx) => (⟨p, c, by rw [hr1], hr2.keepN hk⟩ : Sl encRow S wx (.slice p d.length c) rows)
  obtain ⟨v', w', happ, ho', hk', hf'⟩ := run_append (S := fun g => w.heap.size ≤ g) tRow 29 (Own.nil encRow 99 (fun g => w.heap.size ≤ g) _)
    (HSl (((w.alloc (.cells #[.slice p d.length c, .int .i64 room] 31)).alloc (.cells #[.int .i64 x.kind, .int .i64 x.mode, .int .i64 x.holds, .string x.data, .slice q x.ents.length m] 99)).alloc (.cells #[.slice none 0 0, .int .i64 0] 31))
      ((((Keeps.refl NoB w).alloc _).alloc _).alloc _)) (by simp; omega) (by simp; omega) (by simp; omega)
  rw [List.nil_append] at ho'
  have hkk := hk'.mono (G := NoB) (fun _ _ h => by cases h)
  obtain ⟨a1, a2, a3, z1, z2, z3, z4⟩ := boxes3 hkk
  obtain ⟨g, cp, cur, hv, hSg, hg, hcp, hcm, hsz, htk⟩ := ho'.row (by omega)
  subst hv
  have A0 : w'.cell? ⟨w.heap.size, 0, none⟩ = some (.slice p d.length c) := a1 0 _ rfl
  have A1 : w'.cell? ⟨w.heap.size, 1, none⟩ = some (.int .i64 room) := a1 1 _ rfl
  have B0 : w'.cell? ⟨w.heap.size + 1, 0, none⟩ = some (.int .i64 x.kind) := a2 0 _ rfl
  have B1 : w'.cell? ⟨w.heap.size + 1, 1, none⟩ = some (.int .i64 x.mode) := a2 1 _ rfl
  have B2 : w'.cell? ⟨w.heap.size + 1, 2, none⟩ = some (.int .i64 x.holds) := a2 2 _ rfl
  have B3 : w'.cell? ⟨w.heap.size + 1, 3, none⟩ = some (.string x.data) := a2 3 _ rfl
  have B4 : w'.cell? ⟨w.heap.size + 1, 4, none⟩ = some (.slice q x.ents.length m) := a2 4 _ rfl
  have C0 : w'.cell? ⟨w.heap.size + 2, 0, none⟩ = some (.slice none 0 0) := a3 0 _ rfl
  have C1 : w'.cell? ⟨w.heap.size + 2, 1, none⟩ = some (.int .i64 0) := a3 1 _ rfl
  have zg : ∀ j, w'.frozen? ⟨g, j, none⟩ = false := fun j => frozen_of_row w' g j cur _ hg
  have hgg : w.heap.size + 3 ≤ g := by
    rcases hf' g rfl with e | e
    · cases e
    · simpa using e
  have ne0 : ¬ g = w.heap.size := by omega
  have ne1 : ¬ g = w.heap.size + 1 := by omega
  have ne2 : ¬ g = w.heap.size + 2 := by omega
  obtain ⟨r0, hr0⟩ : ∃ r, rows[k]? = some r := ⟨_, List.getElem?_eq_getElem (by omega)⟩
  obtain ⟨_, _, hgo, _, _, hcc⟩ := ho'.at.at hr0
  cases hgo
  have D0 : w'.cell? ⟨g, k * 5, none⟩ = some (.int .i64 r0.kind) := by have := hcc 0 _ rfl; rwa [Nat.zero_add] at this
  have D1 : w'.cell? ⟨g, k * 5 + 1, none⟩ = some (.int .i64 r0.mode) := by have := hcc 1 _ rfl; rwa [Nat.zero_add] at this
  have D2 : w'.cell? ⟨g, k * 5 + 2, none⟩ = some (.int .i64 r0.holds) := by have := hcc 2 _ rfl; rwa [Nat.zero_add] at this
  have D3 : w'.cell? ⟨g, k * 5 + 3, none⟩ = some (.string r0.data) := by have := hcc 3 _ rfl; rwa [Nat.zero_add] at this
  have D4 : w'.cell? ⟨g, k * 5 + 4, none⟩ = some (.slice r0.p r0.n r0.c) := by have := hcc 4 _ rfl; rwa [Nat.zero_add] at this
  rw [hr1] at happ
  have hcp' : d.length ≤ cp := by omega
  unfold maxLen at hcm
  have HO := Lib.hid ho'
  have HKK := Lib.hid hkk
  have Hr0 := Lib.hid hr0
  have Hgg := Lib.hid hgg
  have Happ := Lib.hid happ
  have Hr1 := Lib.hid hr1
  have Hr3 := Lib.hid hr3
  clear ho' hkk hr0 hcc hk' hf' a1 a2 a3 htk hsz hSg hg hgg hr1 hr2 hr3 h hm2 HSl happ hcp
  go_enter Tryz.func182, Tryz.ntmps182
  have ne0' : ¬ w.heap.size = g := by omega
  have ne1' : ¬ w.heap.size + 1 = g := by omega
  have ne2' : ¬ w.heap.size + 2 = g := by omega
  go_upto_region 4 with (at_builtin; go_loud (refine Lib.wpList_append_run_sl _ rfl (.tmp 8) (.tmp 10) _ rfl _ _ rfl rfl Happ.out ?_))
  change Code.wp _ _ _ _ (set5 w' g (k * 5) (.int .i64 x.kind) (.int .i64 x.mode) (.int .i64 x.holds) (.string x.data) (.slice q x.ents.length m))
  have hk5 := set5_keeps w' g (k * 5) (.int .i64 x.kind) (.int .i64 x.mode) (.int .i64 x.holds) (.string x.data) (.slice q x.ents.length m)
  have hO5 := HO.out.row5 Hr0.out ⟨x.kind, x.mode, x.holds, x.data, q, x.ents.length, m⟩
  have hs5 := set5_size w' g (k * 5) (.int .i64 x.kind) (.int .i64 x.mode) (.int .i64 x.holds) (.string x.data) (.slice q x.ents.length m)
  generalize set5 w' g (k * 5) (.int .i64 x.kind) (.int .i64 x.mode) (.int .i64 x.holds) (.string x.data) (.slice q x.ents.length m) = w5 at *
  have A0' := (hk5.cell (p := ⟨w.heap.size, 0, none⟩) (by simp only; omega) ne0').trans A0
  have A1' := (hk5.cell (p := ⟨w.heap.size, 1, none⟩) (by simp only; omega) ne0').trans A1
  have C0' := (hk5.cell (p := ⟨w.heap.size + 2, 0, none⟩) (by simp only; omega) ne2').trans C0
  have C1' := (hk5.cell (p := ⟨w.heap.size + 2, 1, none⟩) (by simp only; omega) ne2').trans C1
  have z1' := fun j => (hk5.frozen (p := ⟨w.heap.size, j, none⟩) (by simp only; omega) ne0').trans (z1 j)
  have z3' := fun j => (hk5.frozen (p := ⟨w.heap.size + 2, j, none⟩) (by simp only; omega) ne2').trans (z3 j)
  have HK5 := Lib.hid hk5
  have HO5 := Lib.hid hO5
  have Hs5 := Lib.hid hs5
  have Hne := Lib.hid (⟨ne0, ne1, ne2⟩ : _ ∧ _ ∧ _)
  have Hx := Lib.hid hx
  clear A0 A1 B0 B1 B2 B3 B4 C0 C1 D0 D1 D2 D3 D4 z1 z2 z3 zg hk5 hO5 hs5 HO Happ ne0 ne1 ne2 ne0' ne1' ne2' hx
  go_wp2
  have hkw : Keeps NoB w w' := ((((Keeps.refl NoB w).alloc _).alloc _).alloc _).trans HKK.out
  have hw5 : Keeps NoB w w5 := hkw.step HK5.out (fun b hb => .inr (by have := Hgg.out; omega))
  (try simp only [Exit.inBlock, Exit.then])
  refine bodyPost_ret (v := .agg #[.slice (some ⟨g, 0, none⟩) d.length cp, .int .i64 room]) ?_ rfl ⟨_, rfl, ?_⟩
  · rw [results_cell_one rfl]
    go_simp
  · have k6 : Keeps (fun b => b = w.heap.size ∨ b = w.heap.size + 2) w5 (((w5.setCell ⟨w.heap.size, 0, none⟩ (.slice (some ⟨g, 0, none⟩) d.length cp)).setCell ⟨w.heap.size + 1 + 1, 0, none⟩ (.slice (some ⟨g, 0, none⟩) d.length cp)).setCell ⟨w.heap.size + 1 + 1, 1, none⟩ (.int .i64 room)) :=
      ((((keeps_set w5 ⟨w.heap.size, 0, none⟩ _).mono (fun b _ hb => .inl hb)).trans ((keeps_set _ ⟨w.heap.size + 1 + 1, 0, none⟩ _).mono (fun b _ hb => .inr hb))).trans ((keeps_set _ ⟨w.heap.size + 1 + 1, 1, none⟩ _).mono (fun b _ hb => .inr hb)))
    have kF : Keeps NoB w (((w5.setCell ⟨w.heap.size, 0, none⟩ (.slice (some ⟨g, 0, none⟩) d.length cp)).setCell ⟨w.heap.size + 1 + 1, 0, none⟩ (.slice (some ⟨g, 0, none⟩) d.length cp)).setCell ⟨w.heap.size + 1 + 1, 1, none⟩ (.int .i64 room)) :=
      hw5.step k6 (fun b hb => .inr (by omega))
    refine ⟨⟨some ⟨g, 0, none⟩, cp, by unfold refV; rw [upd_length], ⟨rows.set k ⟨x.kind, x.mode, x.holds, x.data, q, x.ents.length, m⟩, by rw [List.length_set, upd_length]; exact Hr1.out, ?_, fun i r hi => ?_⟩⟩, kF⟩
    · have h1 := HO5.out.keep k6 (fun b hb e => by
        simp [Value.ownBlock] at hb
        have := Hne.out
        subst hb
        rcases e with e | e
        · exact this.1 e
        · exact this.2.2 e)
      have h2 := h1.sl.mono (fun b hb _ => hS b hb)
      have : (rows.set k (⟨x.kind, x.mode, x.holds, x.data, q, x.ents.length, m⟩ : RRow)).length = rows.length := by simp
      rw [← this] at h2
      exact h2.at'
    · rw [List.getElem?_set] at hi
      rw [upd_nat_get hk]
      split at hi
      · next e =>
        subst e
        rw [if_pos rfl]
        split at hi
        · cases hi
          exact ⟨rfl, rfl, rfl, rfl, rfl, Hx.out.keepN kF⟩
        · cases hi
      · next e =>
        rw [if_neg (by omega)]
        exact (Hr3.out i r hi).keepS kF (fun _ _ _ h => h) (fun _ h _ => h)

end

end Go.Proofs.YtbmalnllppamdaaGreatDoor
