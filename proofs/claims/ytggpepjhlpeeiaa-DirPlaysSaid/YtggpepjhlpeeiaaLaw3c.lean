/-
  The walk of DirOrders.
-/
import Derived.Test.YtggpepjhlpeeiaaLaw3b
namespace Go.Proofs.Ytggpepjhlpeeiaa
open Go.RowKit

/-- Two directories side by side. -/
def TwoD (W w : World) (B : Nat) (va vb : Value) (ea eb : List Ent) : Prop :=
  IsD w ⟨B, 0, none⟩ va ea ∧ IsD w ⟨B + 1, 0, none⟩ vb eb ∧ (∀ g, va.ownBlock = some g → B + 1 < g ∧ ¬ vb.ownBlock = some g) ∧ (∀ g, vb.ownBlock = some g → B + 1 < g) ∧ Keeps NoB W w

theorem TwoD.first {W w w' : World} {B : Nat} {va vb : Value} {ea eb ea' : List Ent} (h : TwoD W w B va vb ea eb) (hB : W.heap.size ≤ B) (ht : DTo w w' ⟨B, 0, none⟩ va ea') : ∃ va', TwoD W w' B va' vb ea' eb := by
  obtain ⟨ha, hb, h1, h2, hk⟩ := h
  have hk' := ht.keeps hk (Or.inr hB) (fun g hg => Or.inr (by have := (h1 g hg).1; omega))
  have hb' : IsD w' ⟨B + 1, 0, none⟩ vb eb := hb.keep (ht.keeps (F := fun g => g = B ∨ va.ownBlock = some g) (Keeps.refl _ _) (Or.inl (Or.inl rfl)) (fun g hg => Or.inl (Or.inr hg)))
    (fun h => h.elim (fun h => by simp at h) (fun h => by have := (h1 _ h).1; simp at this)) (fun g hg h => h.elim (fun h => by have := h2 g hg; omega) (fun h => (h1 g h).2 hg))
  have hl := hb.lt
  have hol := hb.ownlt
  obtain ⟨va', hd, _, hf⟩ := ht
  exact ⟨va', hd, hb', fun g hg => (hf g hg).elim (h1 g) (fun h => ⟨by simp at hl; omega, fun e => by have := hol g e; omega⟩), h2, hk'⟩

theorem TwoD.second {W w w' : World} {B : Nat} {va vb : Value} {ea eb eb' : List Ent} (h : TwoD W w B va vb ea eb) (hB : W.heap.size ≤ B) (ht : DTo w w' ⟨B + 1, 0, none⟩ vb eb') : ∃ vb', TwoD W w' B va vb' ea eb' := by
  obtain ⟨ha, hb, h1, h2, hk⟩ := h
  have hk' := ht.keeps hk (Or.inr (by simp; omega)) (fun g hg => Or.inr (by have := h2 g hg; omega))
  have ha' : IsD w' ⟨B, 0, none⟩ va ea := ha.keep (ht.keeps (F := fun g => g = B + 1 ∨ vb.ownBlock = some g) (Keeps.refl _ _) (Or.inl (Or.inl rfl)) (fun g hg => Or.inl (Or.inr hg)))
    (fun h => h.elim (fun h => by simp at h) (fun h => by have := h2 _ h; simp at this; omega)) (fun g hg h => h.elim (fun h => by have := (h1 g hg).1; omega) (fun h => (h1 g hg).2 h))
  have hl := hb.lt
  have hol := ha.ownlt
  obtain ⟨vb', hd, _, hf⟩ := ht
  exact ⟨vb', ha', hd, fun g hg => ⟨(h1 g hg).1, fun e => (hf g e).elim (h1 g hg).2 (fun h => by have := hol g hg; omega)⟩, fun g hg => (hf g hg).elim (h2 g) (fun h => by simp at hl; omega), hk'⟩

set_option maxHeartbeats 2000000 in
set_option maxRecDepth 100000 in
theorem orders_any (W : World) (p : Option Addr) (c : Nat) (names : List ByteArray) (t : Nat) (h : SlAt encStr (fun g => g < W.heap.size) W p c names) (ht : (t : Int) ≤ 9223372036854775807)
    (h1 : 1 ≤ names.length) (h2 : names.length ≤ 60) :
    Calls Try.prog 3 #[.slice p names.length c, .int .i64 t] W fun e w' => e = .returned (.bool true) ∧ Keeps NoB W w' := by
  go_enter Try.func3, Try.ntmps3
  go_wp2_with (go_at_call 6; refine (anchor_any _).mono ?_; rintro e w1 ⟨rfl, hk1⟩)
  have hB : W.heap.size ≤ w1.heap.size := hk1.size
  have hstart : TwoD W ((w1.alloc (.cells #[.slice none 0 0] 26)).alloc (.cells #[.slice none 0 0] 26)) w1.heap.size (.slice none 0 0) (.slice none 0 0) (putAll (names.take 0)) (putAll (turned names t 0)) := by
    refine ⟨?_, ?_, (fun g hg => by cases hg), (fun g hg => by cases hg), (hk1.alloc _).alloc _⟩
    · exact (IsD.new w1 _).keep ((Keeps.refl NoB _).alloc _) (fun h => h) (fun _ _ h => h)
    · have := IsD.new (w1.alloc (.cells #[.slice none 0 0] 26)) 26
      simp only [World.size_alloc] at this
      exact this
  have Hst := Lib.hid hstart
  have Hk1 := Lib.hid hk1
  clear hstart hk1
  have hcap := h.cap
  have hmax := h.max
  unfold maxLen at hmax
  have hmlt := Nat.mod_lt t (show 0 < names.length by omega)
  have hm1 : (0 : Int) ≤ (t : Int) % (names.length : Int) := Int.emod_nonneg _ (by omega)
  have hm2 : (t : Int) % (names.length : Int) < (names.length : Int) := Int.emod_lt_of_pos _ (by omega)
  go_loopw [7, 27] (fun _ i wr => ∃ (k : Nat) (va vb : Value), k ≤ names.length ∧ i = .int .i64 k ∧ TwoD W wr w1.heap.size va vb (putAll (names.take k)) (putAll (turned names t k))) (fun _ i _ => names.length - (intOf i).toNat)
  case atStart => exact ⟨0, _, _, Nat.zero_le _, rfl, Hst.out⟩
  case round =>
    obtain ⟨k, va, vb, hk, rfl, htw⟩ := hrel
    have Htw := Lib.hid htw
    have hkp := htw.2.2.2.2
    have Hkp := Lib.hid hkp
    clear htw hkp Hst
    by_cases hlt : k < names.length
    · obtain ⟨x, hx⟩ : ∃ x, names[k]? = some x := ⟨_, List.getElem?_eq_getElem hlt⟩
      obtain ⟨y, hy⟩ : ∃ y, names[(k + t) % names.length]? = some y := ⟨_, List.getElem?_eq_getElem (Nat.mod_lt _ (by omega))⟩
      obtain ⟨g, off, rfl, hS, hg, c0⟩ := (h.keepN Hkp.out).str hx
      obtain ⟨_, _, e1, _, _, d0⟩ := (h.keepN Hkp.out).str hy
      cases e1
      have Hx := Lib.hid hx
      have Hy := Lib.hid hy
      have hla := (putAll_spec (names.take k)).2.1
      have hlb := (putAll_spec (turned names t k)).2.1
      rw [List.length_take] at hla
      rw [show (turned names t k).length = k by simp [turned]] at hlb
      clear hx hy
      by_cases hsz : 500 < x.size
      · go_wp2
        go_ret
        exact ⟨rfl, Hkp.out⟩
      · go_wp2_with (fail)
        refine (put_d _ _ _ _ _ _ Htw.out.1 (by omega)).mono ?_
        rintro e w2 ⟨rfl, ht⟩
        obtain ⟨va', htw2⟩ := Htw.out.first hB ht
        have Hkp2 := Lib.hid htw2.2.2.2.2
        have c0' : w2.cell? ⟨g, off + k, none⟩ = some (.string x) := by
          obtain ⟨_, _, e1, _, _, c0⟩ := (h.keepN Hkp2.out).str Hx.out; cases e1; exact c0
        have d0' : w2.cell? ⟨g, off + (k + t) % names.length, none⟩ = some (.string y) := by
          obtain ⟨_, _, e1, _, _, c0⟩ := (h.keepN Hkp2.out).str Hy.out; cases e1; exact c0
        clear c0 d0 ht
        have Htw2 := Lib.hid htw2
        clear htw2
        have hq1 : (0 : Int) ≤ ((k : Int) + (t : Int)) % (names.length : Int) := Int.emod_nonneg _ (by omega)
        have hq2 : ((k : Int) + (t : Int)) % (names.length : Int) < (names.length : Int) := Int.emod_lt_of_pos _ (by omega)
        go_wp2_with (fail)
        refine (put_d _ _ _ _ _ _ Htw2.out.2.1 (by omega)).mono ?_
        rintro e w3 ⟨rfl, ht⟩
        obtain ⟨vb', htw3⟩ := Htw2.out.second hB ht
        rw [← putAll_snoc, ← putAll_snoc, ← turned_succ names t k y Hy.out] at htw3
        have e1 : names.take k ++ [x] = names.take (k + 1) := by rw [List.take_add_one, Hx.out]; rfl
        rw [e1] at htw3
        have Htw3 := Lib.hid htw3
        clear htw3 ht e1
        go_wp2_with (fail)
        go_roundw
        case rel => exact ⟨k + 1, va', vb', by omega, by go_num, Htw3.out⟩
        case measure => simp [intOf]; omega
    · obtain rfl : k = names.length := by omega
      have htw := Htw.out
      rw [List.take_length, putAll_turned names t (by omega)] at htw
      have Htw := Lib.hid htw
      have hla := (putAll_spec names).2.1
      clear htw
      go_wp2_with (fail)
      refine (list_any _ _ _ _ _ Htw.out.1 (by omega)).mono ?_
      rintro e w2 ⟨sa, rfl, hoa, hka⟩
      go_wp2_with (fail)
      refine (list_any _ _ _ _ _ (Htw.out.2.1.keep hka (fun h => h) (fun _ _ h => h)) (by omega)).mono ?_
      rintro e w3 ⟨sb, rfl, hob, hkb⟩
      have hkw : Hid (Keeps NoB W w3) := (Hkp.out.trans hka).trans hkb
      have hsa := (hoa.keep hkb (fun _ _ h => h)).sl
      have hsb := hob.sl
      have Hri := Lib.hid (putAll_spec names).1
      clear hoa hob hka hkb Htw Hkp
      generalize putAll names = es at *
      obtain ⟨pa, ca, rfl, hsa⟩ := hsa
      obtain ⟨pb, cb, rfl, hsb⟩ := hsb
      go_wp2_with (fail)
      clear hm1 hm2 hmlt
      go_loopw [10, 64] (fun _ i wr => ∃ k : Nat, k ≤ es.length ∧ i = .int .i64 k ∧ Keeps NoB w3 wr) (fun _ i _ => es.length - (intOf i).toNat)
      case atStart => exact ⟨0, Nat.zero_le _, rfl, Keeps.refl _ _⟩
      case round =>
        obtain ⟨k, hk, rfl, hkp⟩ := hrel
        have Hkp := Lib.hid hkp
        clear hkp
        by_cases hlt2 : k < es.length
        · obtain ⟨x, hx⟩ : ∃ x, es[k]? = some x := ⟨_, List.getElem?_eq_getElem hlt2⟩
          obtain ⟨g, off, rfl, _, _, c0, c1⟩ := (hsa.keepN Hkp.out).ent hx
          obtain ⟨g', off', rfl, _, _, d0, d1⟩ := (hsb.keepN Hkp.out).ent hx
          have b1 : (0 : Int) ≤ k := by omega
          have b2 : (k : Int) < es.length := by omega
          cases k with
          | zero =>
            clear hx
            simp only [Nat.zero_mul, Nat.add_zero] at c0 c1 d0 d1
            go_wp2
            go_quiet (fail)
            go_wp2
            go_roundw
            case rel => exact ⟨1, by omega, by go_num, Hkp.out.drewN _⟩
            case measure => simp [intOf]; omega
          | succ m =>
            obtain ⟨y, hy⟩ : ∃ y, es[m]? = some y := ⟨_, List.getElem?_eq_getElem (by omega)⟩
            obtain ⟨_, _, e1, _, _, f0, f1⟩ := (hsa.keepN Hkp.out).ent hy
            cases e1
            have hless := less_eq y.1 x.1
            rw [Hri.out.get hy hx (by omega)] at hless
            clear hx hy
            have b3 : (m : Int) < es.length := by omega
            have b4 : (0 : Int) ≤ m := by omega
            go_wp2
            go_quiet (fail)
            go_wp2
            go_roundw
            case rel => exact ⟨m + 1 + 1, by omega, by go_num, Hkp.out.drewN _⟩
            case measure => simp [intOf]; omega
        · go_wp2
          go_ret
          exact ⟨rfl, hkw.out.trans Hkp.out⟩
end Go.Proofs.Ytggpepjhlpeeiaa
