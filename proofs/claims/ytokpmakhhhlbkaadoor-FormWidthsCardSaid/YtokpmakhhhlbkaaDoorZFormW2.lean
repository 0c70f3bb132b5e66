/-
  Layer 10: contracts: Escaped, escape, Unescape.
-/
import Derived.Test.YtokpmakhhhlbkaaDoorZFormW

set_option linter.unusedSimpArgs false
set_option linter.unusedVariables false

set_option maxRecDepth 100000
set_option maxHeartbeats 4000000
namespace Go.Proofs.YtokpmakhhhlbkaaDoor
open Go Go.RowKit

theorem fEscaped_any (s : ByteArray) (w : World) (hs : s.size ≤ 1000000000) :
    Calls Tryd.prog 10 #[.string s] w fun e w' => e = .returned (.int .i64 ((escL s.data.toList).length : Int)) ∧ Keeps NoB w w' := by
  have hconv := fun wx => Lib.run_convert_string_bytes (P := Tryd.prog) wx 9 23 5 s Tryd.underlying9 Tryd.underlying23 Tryd.underlying5
  obtain ⟨l, hls⟩ : ∃ l, s.data.toList = l := ⟨_, rfl⟩
  have hl : l.length = s.size := by rw [← hls]; exact len_data s
  obtain ⟨hsl, hkc⟩ := conv_sl w s (by unfold maxLen; omega)
  rw [hls] at hsl ⊢
  have HL := Lib.hid hsl
  have HK := Lib.hid hkc
  have HM := Lib.hid hsl.max
  have HC := Lib.hid hsl.cap
  clear hls hsl hkc
  go_enter Tryd.func10, Tryd.ntmps10
  go_upto_region 3 with fail
  clear hconv
  generalize grownCap w s.size 0 5 = cp at *
  generalize Lib.bytesWorld w 5 s = w2 at *
  rw [← hl] at hs ⊢
  clear hl
  have hmx := HM.out
  have hcp := HC.out
  unfold maxLen at hmx
  clear HM HC
  go_loop [3, 11] (fun n i => ∃ k : Nat, k ≤ l.length ∧ i = .int .i64 k ∧ n = .int .i64 (((escL (l.take k)).length + (l.length - k) : Nat) : Int)) (fun _ i => l.length + 1 - (intOf i).toNat)
  case atStart => exact ⟨0, Nat.zero_le _, rfl, by rw [show (escL (l.take 0)).length = 0 from rfl, Nat.zero_add, Nat.sub_zero]⟩
  case round =>
    obtain ⟨k, hk, rfl, rfl⟩ := hrel
    have hle := escL_le (l.take k)
    have hlt' : (l.take k).length ≤ k := List.length_take_le _ _
    by_cases hlt : k < l.length
    · obtain ⟨c, hc⟩ : ∃ c, l[k]? = some c := ⟨_, List.getElem?_eq_getElem hlt⟩
      have t0 : w2.cell? ⟨w.heap.size, k, none⟩ = some (.int .u8 (c.toNat : Int)) := by
        obtain ⟨g, off, e, _, _, hcc⟩ := HL.out.at hc
        cases e
        have := hcc 0 _ rfl
        simpa [encU8] using this
      have hpl := Lib.hid (plain_any (c.toNat : Int))
      have hnx := Lib.hid (show (escL (l.take (k + 1))).length = (escL (l.take k)).length + (if plnB (c.toNat : Int) = true then 1 else 4) by rw [take_next hc, escL_snoc, List.length_append, escC_len]; rfl)
      clear hc
      obtain ⟨m, hm⟩ : ∃ m, (escL (l.take k)).length + (l.length - k) = m := ⟨_, rfl⟩
      rw [hm]
      by_cases hp : plnB (c.toNat : Int) = true
      · rw [hp] at hpl
        rw [if_pos hp] at hnx
        have HN : Hid ((escL (l.take (k + 1))).length + (l.length - (k + 1)) = m) := Lib.hid (by rw [hnx.out]; omega)
        clear hp hle hm
        go_wp2_with (go_at_call 14; go_loud (refine (hpl.out _).mono ?_); rintro e w3 ⟨rfl, rfl⟩)
        go_round
        case rel => exact ⟨k + 1, by omega, by go_num, by rw [HN.out]⟩
        case measure => simp [intOf]; omega
      · have hp2 : plnB (c.toNat : Int) = false := by simpa using hp
        rw [hp2] at hpl
        rw [if_neg hp] at hnx
        have HN : Hid ((escL (l.take (k + 1))).length + (l.length - (k + 1)) = m + 3) := Lib.hid (by rw [hnx.out]; omega)
        have hmb : m ≤ 5000000000 := by omega
        clear hp hp2 hle hm
        go_wp2_with (go_at_call 14; go_loud (refine (hpl.out _).mono ?_); rintro e w3 ⟨rfl, rfl⟩)
        go_round
        case rel => exact ⟨k + 1, by omega, by go_num, by rw [HN.out]; go_num⟩
        case measure => simp [intOf]; omega
    · obtain rfl : k = l.length := by omega
      rw [List.take_length]
      clear hle hlt'
      go_wp2
      go_ret
      exact ⟨ret_i64 (by omega), HK.out⟩

/-- The letters' places. -/
def lettS : ByteArray := ⟨#[92, 97, 98, 102, 110, 114, 116, 118]⟩
def lettV : ByteArray := ⟨#[92, 7, 8, 12, 10, 13, 9, 11]⟩
theorem lett_idx : ∀ n : Fin 256, (lettC (UInt8.ofNat n.val) = none ∧ bIdx lettS (UInt8.ofNat n.val) = -1) ∨ ∃ i : Fin 8, bIdx lettS (UInt8.ofNat n.val) = (i.val : Int) ∧ lettC (UInt8.ofNat n.val) = lettV.data.toList[i.val]? := by decide +kernel
theorem lett_cases (c : UInt8) : (lettC c = none ∧ bIdx lettS c = -1) ∨ ∃ (i : Nat) (v : UInt8), i < 8 ∧ bIdx lettS c = (i : Int) ∧ lettC c = some v ∧ lettV.data.toList[i]? = some v := by
  have h := lett_idx ⟨c.toNat, c.toNat_lt⟩
  simp only [UInt8.ofNat_toNat] at h
  rcases h with h | ⟨i, h1, h2⟩
  · exact .inl h
  · have hi : i.val < lettV.data.toList.length := i.isLt
    refine .inr ⟨i.val, lettV.data.toList[i.val], i.isLt, h1, ?_, List.getElem?_eq_getElem hi⟩
    rw [h2, List.getElem?_eq_getElem hi]

theorem isEmpty_d (x : ByteArray) : x.toList.isEmpty = decide (x.size = 0) := by
  rw [Lib.toList_data, Bool.eq_iff_iff, List.isEmpty_iff, decide_eq_true_eq, ← len_data x]
  exact List.length_eq_zero_iff.symm

theorem tw_len {p : UInt8 → Bool} : ∀ (l : List UInt8) (k : Nat), k ≤ l.length → (∀ c ∈ l.take k, p c = true) → (∀ c, l[k]? = some c → p c = false) → (l.takeWhile p).length = k
  | [], k, hk, _, _ => by simp at hk; subst hk; rfl
  | c :: l, 0, _, _, h => by
    have := h c rfl
    simp [List.takeWhile, this]
  | c :: l, k + 1, hk, h1, h2 => by
    have hc := h1 c (by simp)
    have := tw_len l k (by simpa using hk) (fun x hx => h1 x (by simp [hx])) (fun x hx => h2 x (by simpa using hx))
    simp [List.takeWhile, hc, this]

theorem octN_is {l : List UInt8} {k : Nat} (h3 : k ≤ 3) (hk : k ≤ l.length) (h1 : ∀ c ∈ l.take k, isOct c = true) (h2 : k < 3 → ∀ c, l[k]? = some c → isOct c = false) : octN l = k := by
  refine tw_len (l.take 3) k (by rw [List.length_take]; omega) (fun c hc => h1 c ?_) (fun c hc => ?_)
  · rw [List.take_take, Nat.min_eq_left h3] at hc; exact hc
  · rw [List.getElem?_take] at hc
    split at hc
    · next h => exact h2 h c hc
    · cases hc
theorem octV_snoc (l : List UInt8) (c : UInt8) : octV (l ++ [c]) = 8 * octV l + (c.toNat - 48) := by unfold octV; simp
theorem octV_le : ∀ (l : List UInt8) (n : Nat), l.length ≤ n → (∀ c ∈ l, isOct c = true) → octV l < 8 ^ n
  | l, n, hn, h => by
    suffices H : ∀ (l : List UInt8) (v m : Nat), v < 8 ^ m → (∀ c ∈ l, isOct c = true) → l.foldl (fun v c => 8 * v + (c.toNat - 48)) v < 8 ^ (m + l.length) by
      have := H l 0 0 (by decide) h
      rw [Nat.zero_add] at this
      exact Nat.lt_of_lt_of_le this (Nat.pow_le_pow_right (by decide) hn)
    intro l
    induction l with
    | nil => intro v m hv _; exact hv
    | cons c l ih =>
      intro v m hv hl
      have hc := hl c (by simp)
      unfold isOct at hc
      simp only [Bool.and_eq_true, decide_eq_true_eq] at hc
      have := ih (8 * v + (c.toNat - 48)) (m + 1) (by rw [Nat.pow_succ]; omega) (fun x hx => hl x (by simp [hx]))
      rw [List.foldl_cons, List.length_cons, show m + (l.length + 1) = m + 1 + l.length by omega]
      exact this

theorem or_fin : ∀ (v : Fin 64) (d : Fin 8), bits BinOp.or IntKind.i64 ((v.val : Int) * 8) (d.val : Int) = 8 * (v.val : Int) + (d.val : Int) := by decide +kernel

theorem escape_any (s : ByteArray) (w : World) (hs : s.size ≤ 1000000000) :
    Calls Tryd.prog 18 #[.string s] w fun e w' => e = .returned (.tuple #[.int .u8 ((escR s.data.toList).1.toNat : Int), .int .i64 ((escR s.data.toList).2 : Int)]) ∧ w = w' := by
  have hem := isEmpty_d s
  have hl : s.data.toList.length = s.size := len_data s
  have hget : ∀ (i : Nat) (h : i < s.size), s.data.toList[i]? = some s[i] := fun i h => by rw [List.getElem?_eq_getElem (by rw [hl]; exact h)]; rfl
  have HG := Lib.hid hget
  clear hget
  obtain ⟨l, hls⟩ : ∃ l, s.data.toList = l := ⟨_, rfl⟩
  rw [hls] at hl HG ⊢
  have HLS := Lib.hid hls
  clear hls
  by_cases h0 : s.size = 0
  · have hln : l = [] := List.eq_nil_of_length_eq_zero (by omega)
    subst hln
    have hb : s.toList.isEmpty = true := by rw [hem]; simp [h0]
    clear hem h0 hl
    go_enter Tryd.func18, Tryd.ntmps18
    go_wp2
    go_ret2
    exact ⟨rfl, rfl⟩
  have hb : s.toList.isEmpty = false := by rw [hem]; simp [h0]
  have hp : 0 < s.size := by omega
  obtain ⟨c, hc⟩ : ∃ c, s[0] = c := ⟨_, rfl⟩
  have hc0 := HG.out 0 hp
  rw [hc] at hc0
  obtain ⟨r, hr⟩ : ∃ r, l = c :: r := by
    cases l with
    | nil => simp at hc0
    | cons a r => simp at hc0; exact ⟨r, by rw [hc0]⟩
  have HI := Lib.hid (fun wx : World => ib_any lettS (c.toNat : Int) wx)
  rw [show ((c.toNat : Int).toNat.toUInt8) = c by simp] at HI
  clear hem
  rcases lett_cases c with ⟨h1, h2⟩ | ⟨i, v, h1, h2, h3, h4⟩
  · rw [h2] at HI
    have HE : Hid (escR l = (UInt8.ofNat (octV (l.take (octN l))), octN l)) := Lib.hid (by rw [hr]; simp only [escR, h1])
    clear h1 h2 hr hc0
    go_enter Tryd.func18, Tryd.ntmps18
    go_wp2_with (go_at_call 24; go_loud (refine (HI.out _).mono ?_); rintro e w4 ⟨rfl, rfl⟩)
    clear HI hb hc hp h0
    go_loop [5, 6] (fun n v => ∃ k : Nat, k ≤ 3 ∧ k ≤ l.length ∧ n = .int .i64 k ∧ v = .int .i64 ((octV (l.take k) : Nat) : Int) ∧ ∀ c ∈ l.take k, isOct c = true) (fun n _ => 4 - (intOf n).toNat)
    case atStart => exact ⟨0, by decide, Nat.zero_le _, rfl, rfl, fun c hc => by simp at hc⟩
    case round =>
      obtain ⟨k, hk3, hkl, rfl, rfl, hoct⟩ := hrel
      have HO := Lib.hid hoct
      clear hoct
      by_cases hgo : k < 3 ∧ ∃ c, l[k]? = some c ∧ isOct c = true
      · obtain ⟨k3, c, hc, ho⟩ := hgo
        have hks : k < s.size := by rw [← hl]; exact (List.getElem?_eq_some_iff.1 hc).1
        have hsk : s[k] = c := by have := HG.out k hks; rw [hc] at this; exact (Option.some.inj this).symm
        have hV := octV_le (l.take k) k (List.length_take_le _ _) HO.out
        have hV2 : octV (l.take k) < 64 := Nat.lt_of_lt_of_le hV (by have := Nat.pow_le_pow_right (show 0 < 8 by decide) (show k ≤ 2 by omega); simpa using this)
        have hnx := take_next hc
        have ho2 := ho
        unfold isOct at ho2
        simp only [Bool.and_eq_true, decide_eq_true_eq] at ho2
        obtain ⟨o1, o2⟩ := ho2
        have HN := Lib.hid (show octV (l.take (k + 1)) = 8 * octV (l.take k) + (c.toNat - 48) by rw [hnx, octV_snoc])
        have HO2 : Hid (∀ c ∈ l.take (k + 1), isOct c = true) := Lib.hid (by rw [hnx]; intro x hx; rcases List.mem_append.1 hx with hx | hx; exact HO.out x hx; simp only [List.mem_singleton] at hx; rw [hx]; exact ho)
        have hor := or_fin ⟨octV (l.take k), hV2⟩ ⟨c.toNat - 48, by omega⟩
        simp only at hor
        rw [show ((c.toNat - 48 : Nat) : Int) = (c.toNat : Int) - 48 by omega] at hor
        obtain ⟨V, hVV⟩ : ∃ V, octV (l.take k) = V := ⟨_, rfl⟩
        rw [hVV] at hor hV2 HN ⊢
        clear hc ho hV hnx HO hVV
        go_wp2
        go_round
        case rel => exact ⟨k + 1, by omega, by omega, by go_num, by rw [HN.out]; exact congrArg (Value.int .i64) (by omega), HO2.out⟩
        case measure => simp [intOf]; omega
      · have hN : octN l = k := octN_is hk3 hkl HO.out (fun h3 c hc => by
          cases e : isOct c with
          | false => rfl
          | true => exact absurd ⟨h3, c, hc, e⟩ hgo)
        have HE2 : Hid (escR l = (UInt8.ofNat (octV (l.take k)), k)) := Lib.hid (by rw [HE.out, hN])
        have hst : (3 ≤ k) ∨ (k < 3 ∧ l.length ≤ k) ∨ (k < 3 ∧ k < l.length ∧ ∃ c, l[k]? = some c ∧ isOct c = false) := by
          by_cases h3 : k < 3
          · by_cases hkl2 : k < l.length
            · refine .inr (.inr ⟨h3, hkl2, _, List.getElem?_eq_getElem hkl2, ?_⟩)
              cases e : isOct l[k] with
              | false => rfl
              | true => exact absurd ⟨h3, _, List.getElem?_eq_getElem hkl2, e⟩ hgo
            · exact .inr (.inl ⟨h3, by omega⟩)
          · exact .inl (by omega)
        have hV := octV_le (l.take k) 3 (by rw [List.length_take]; omega) HO.out
        obtain ⟨V, hVV⟩ : ∃ V, octV (l.take k) = V := ⟨_, rfl⟩
        rw [hVV] at HE2 hV ⊢
        have hV5 : V < 512 := hV
        clear hN hgo HO HE hVV hV
        rcases hst with h3 | ⟨h3, h4⟩ | ⟨h3, h4, c, hc, ho⟩
        · go_wp2
          go_ret2
          refine ⟨?_, rfl⟩
          rw [HE2.out]
          simp [UInt8.toNat_ofNat]
        · go_wp2
          go_ret2
          refine ⟨?_, rfl⟩
          rw [HE2.out]
          simp [UInt8.toNat_ofNat]
        · have hks : k < s.size := by omega
          have hsk : s[k] = c := by have := HG.out k hks; rw [hc] at this; exact (Option.some.inj this).symm
          have hno : ((c.toNat : Int) < 48) ∨ (48 ≤ (c.toNat : Int) ∧ 55 < (c.toNat : Int)) := by
            unfold isOct at ho
            simp only [Bool.and_eq_false_iff, decide_eq_false_iff_not] at ho
            omega
          clear hc ho
          rcases hno with ho | ⟨ho, ho2⟩
          all_goals
            go_wp2
            go_ret2
            refine ⟨?_, rfl⟩
            rw [HE2.out]
            simp [UInt8.toNat_ofNat]
  · rw [h2] at HI
    have HE : Hid (escR l = (v, 1)) := Lib.hid (by rw [hr]; simp only [escR, h3])
    clear h2 h3 hr hc0
    go_enter Tryd.func18, Tryd.ntmps18
    go_wp2_with (go_at_call 24; go_loud (refine (HI.out _).mono ?_); rintro e w4 ⟨rfl, rfl⟩)
    have hvi : (⟨#[92, 7, 8, 12, 10, 13, 9, 11]⟩ : ByteArray)[i] = v := by
      have := h4
      rw [List.getElem?_eq_getElem (show i < lettV.data.toList.length from h1)] at this
      exact Option.some.inj this
    go_ret2
    refine ⟨?_, rfl⟩
    rw [HE.out, hvi]
    rfl

end Go.Proofs.YtokpmakhhhlbkaaDoor
