/-
  Layer 10: contracts of the reference: Byte, Unescape.
-/
import Derived.Test.YtokpmakhhhlbkaaDoorZFormW4
import Derived.BigQuiet
import Derived.Deep.QuietTactic

set_option linter.unusedSimpArgs false
set_option linter.unusedVariables false

set_option maxRecDepth 100000
set_option maxHeartbeats 4000000
namespace Go.Proofs.YtokpmakhhhlbkaaDoor
open Go Go.RowKit

theorem lett_at : ∀ j : Fin 8, lettC (lettS.data.toList[j.val]!) = some (lettV.data.toList[j.val]!) := by decide +kernel
theorem lett_no : ∀ n : Fin 256, lettC (UInt8.ofNat n.val) = none ∨ ∃ j : Fin 8, lettS.data.toList[j.val]! = UInt8.ofNat n.val := by decide +kernel
theorem lett_hit {j : Nat} (hj : j < 8) : lettC (lettS.data.toList[j]'hj) = some (lettV.data.toList[j]'hj) := by
  have := lett_at ⟨j, hj⟩
  simp only [getElem!_pos lettS.data.toList j hj, getElem!_pos lettV.data.toList j hj] at this
  exact this
theorem lett_miss {c : UInt8} (h : ∀ j (hj : j < 8), lettS.data.toList[j]'hj ≠ c) : lettC c = none := by
  have := lett_no ⟨c.toNat, c.toNat_lt⟩
  simp only [UInt8.ofNat_toNat] at this
  rcases this with h1 | ⟨j, h1⟩
  · exact h1
  · rw [getElem!_pos lettS.data.toList j.val j.isLt] at h1
    exact absurd h1 (h j.val j.isLt)

theorem r10Byte_any (s : ByteArray) (a : Nat) (w : World) (hs : s.size ≤ 1000000000) (ha : a ≤ 2000000000) :
    Calls Tryd.prog 19 #[.string s, .int .i64 (a : Int)] w fun e w' => e = .returned (.tuple #[.int .u8 ((escR (s.data.toList.drop a)).1.toNat : Int), .int .i64 ((escR (s.data.toList.drop a)).2 : Int)]) ∧ Keeps NoB w w' := by
  have hl : s.data.toList.length = s.size := len_data s
  have HG := Lib.hid (fun (i : Nat) (h : i < s.size) => (show s.data.toList[i]? = some s[i] by rw [List.getElem?_eq_getElem (by rw [hl]; exact h)]; rfl))
  obtain ⟨l, hls⟩ : ∃ l, s.data.toList = l := ⟨_, rfl⟩
  rw [hls] at hl HG ⊢
  clear hls
  by_cases h0 : s.size ≤ a
  · have hz : ¬ (a : Int) < (s.size : Int) := by omega
    rw [List.drop_of_length_le (by omega)]
    go_enter Tryd.func19, Tryd.ntmps19
    go_wp2
    go_ret2
    exact ⟨rfl, Keeps.refl _ _⟩
  have hz : (a : Int) < (s.size : Int) := by omega
  have hzn : a < s.size := by omega
  obtain ⟨c, hc⟩ : ∃ c, s[a] = c := ⟨_, rfl⟩
  have hca := HG.out a hzn
  rw [hc] at hca
  have hdr : l.drop a = c :: l.drop (a + 1) := by
    obtain ⟨h1, h2⟩ := List.getElem?_eq_some_iff.1 hca
    rw [List.drop_eq_getElem_cons h1, h2]
  have HD := Lib.hid hdr
  clear hdr hca h0
  go_enter Tryd.func19, Tryd.ntmps19
  go_upto_region 5 with fail
  have hdd : decide (s.size ≤ a) = false := by simp; omega
  rw [hdd]
  clear hdd
  have HB0 := Lib.hid (Bk.new (Keeps.refl NoB (w.alloc (.cells #[.int .u8 92, .int .u8 7, .int .u8 8, .int .u8 12, .int .u8 10, .int .u8 13, .int .u8 9, .int .u8 11] 57))))
  have HK0 := Lib.hid ((Keeps.refl NoB w).alloc (.cells #[.int .u8 92, .int .u8 7, .int .u8 8, .int .u8 12, .int .u8 10, .int .u8 13, .int .u8 9, .int .u8 11] 57))
  have HJ0 : Hid (Bk (w.alloc (.cells #[.int .u8 92, .int .u8 7, .int .u8 8, .int .u8 12, .int .u8 10, .int .u8 13, .int .u8 9, .int .u8 11] 57)) w.heap.size (lettV.data.toList.map fun b => .int .u8 (b.toNat : Int))) := Lib.hid HB0.out
  clear HB0
  generalize w.alloc (.cells #[.int .u8 92, .int .u8 7, .int .u8 8, .int .u8 12, .int .u8 10, .int .u8 13, .int .u8 9, .int .u8 11] 57) = w1 at *
  go_wp2_with fail
  go_loopw [8] (fun i wr => ∃ k : Nat, k ≤ 8 ∧ i = .int .i64 k ∧ (∀ j (hj : j < 8), j < k → lettS.data.toList[j]'hj ≠ c) ∧ Bk wr w.heap.size (lettV.data.toList.map fun b => .int .u8 (b.toNat : Int)) ∧ Keeps NoB w wr) (fun i _ => 9 - (intOf i).toNat)
  case atStart => exact ⟨0, by decide, rfl, fun j hj h => absurd h (Nat.not_lt_zero _), HJ0.out, HK0.out⟩
  case round =>
    obtain ⟨k, hk, rfl, hno, hB, hK⟩ := hrel
    have HN := Lib.hid hno
    have HB := Lib.hid hB
    have HK := Lib.hid hK
    clear hno hB hK HJ0 HK0
    by_cases hlt : k < 8
    · have z1 : (k : Int) < 8 := by omega
      obtain ⟨d, hd⟩ : ∃ d, (⟨#[92, 97, 98, 102, 110, 114, 116, 118]⟩ : ByteArray)[k]'hlt = d := ⟨_, rfl⟩
      have hdl : lettS.data.toList[k]'hlt = d := hd
      have hv : wr.cell? ⟨w.heap.size, k, none⟩ = some (.int .u8 ((lettV.data.toList[k]'hlt).toNat : Int)) := by
        refine HB.out.cell k _ ?_
        rw [List.getElem?_map, List.getElem?_eq_getElem (show k < lettV.data.toList.length from hlt)]
        rfl
      by_cases he : d = c
      · have hb : ((c.toNat : Int) == (d.toNat : Int)) = true := by rw [he]; simp
        have HE := Lib.hid (show escR (l.drop a) = (lettV.data.toList[k]'hlt, 1) by rw [HD.out]; simp only [escR]; rw [← he, ← hdl, lett_hit hlt])
        clear he HN hdl
        go_upto_region 8 with fail
        go_quiet (fail)
        replace hv : (wr.drewN nq).cell? ⟨w.heap.size, k, none⟩ = some (.int .u8 ((lettV.data.toList[k]'hlt).toNat : Int)) := hv
        go_wp2_with fail
        go_ret2
        exact ⟨by rw [HE.out]; rfl, HK.out.drewN _⟩
      · have hb : ((c.toNat : Int) == (d.toNat : Int)) = false := by
          have : c.toNat ≠ d.toNat := fun e => he (UInt8.toNat_inj.1 e).symm
          simp; omega
        have HN2 : Hid (∀ j (hj : j < 8), j < k + 1 → lettS.data.toList[j]'hj ≠ c) := Lib.hid (fun j hj h => by
          by_cases e : j = k
          · subst e; rw [hdl]; exact he
          · exact HN.out j hj (by omega))
        clear he hdl hv
        go_upto_region 8 with fail
        go_quiet (fail)
        go_wp2_with fail
        go_roundw
        case rel => exact ⟨k + 1, by omega, by go_num, HN2.out, HB.out.on ((Keeps.refl _ _).drewN _), HK.out.drewN _⟩
        case measure => simp [intOf]; omega
    · have z1 : ¬ (k : Int) < 8 := by omega
      have hnone : lettC c = none := lett_miss (fun j hj => HN.out j hj (by omega))
      have HE := Lib.hid (show escR (l.drop a) = (UInt8.ofNat (octV ((l.drop a).take (octN (l.drop a)))), octN (l.drop a)) by rw [HD.out]; simp only [escR, hnone])
      have HOc := Lib.hid r10octal_any
      clear HN HB hnone hc HD
      obtain ⟨q, hq⟩ : ∃ q, l.drop a = q := ⟨_, rfl⟩
      rw [hq] at HE
      have hql : q.length = s.size - a := by rw [← hq, List.length_drop, hl]
      have HGq := Lib.hid (fun (i : Nat) (h : a + i < s.size) => (show q[i]? = some s[a + i] by rw [← hq, List.getElem?_drop]; exact HG.out (a + i) h))
      have HQ := Lib.hid hq
      clear HG hq
      go_wp2_with fail
      go_loop [9, 10] (fun v n => ∃ k : Nat, k ≤ 3 ∧ k ≤ q.length ∧ n = .int .i64 k ∧ v = .int .i64 ((octV (q.take k) : Nat) : Int) ∧ ∀ c ∈ q.take k, isOct c = true) (fun _ n => 4 - (intOf n).toNat)
      case atStart => exact ⟨0, by decide, Nat.zero_le _, rfl, rfl, fun c hc => by simp at hc⟩
      case round =>
        obtain ⟨k, hk3, hkl, rfl, rfl, hoct⟩ := hrel
        have HO := Lib.hid hoct
        clear hoct
        by_cases hgo : k < 3 ∧ ∃ c, q[k]? = some c ∧ isOct c = true
        · obtain ⟨k3, c, hc, ho⟩ := hgo
          have hks : k < q.length := (List.getElem?_eq_some_iff.1 hc).1
          have hkz : a + k < s.size := by omega
          have hsk : s[a + k] = c := by have := HGq.out k hkz; rw [hc] at this; exact (Option.some.inj this).symm
          have hV := octV_le (q.take k) k (List.length_take_le _ _) HO.out
          have hV2 : octV (q.take k) < 64 := Nat.lt_of_lt_of_le hV (by have := Nat.pow_le_pow_right (show 0 < 8 by decide) (show k ≤ 2 by omega); simpa using this)
          have hnx := take_next hc
          have ho2 := ho
          unfold isOct at ho2
          have HOt := Lib.hid (fun wx : World => r10octal_any (c.toNat : Int) wx)
          rw [ho2] at HOt
          simp only [Bool.and_eq_true, decide_eq_true_eq] at ho2
          obtain ⟨o1, o2⟩ := ho2
          have HN := Lib.hid (show octV (q.take (k + 1)) = 8 * octV (q.take k) + (c.toNat - 48) by rw [hnx, octV_snoc])
          have HO2 : Hid (∀ c ∈ q.take (k + 1), isOct c = true) := Lib.hid (by rw [hnx]; intro x hx; rcases List.mem_append.1 hx with hx | hx; exact HO.out x hx; simp only [List.mem_singleton] at hx; rw [hx]; exact ho)
          obtain ⟨V, hVV⟩ : ∃ V, octV (q.take k) = V := ⟨_, rfl⟩
          rw [hVV] at hV2 HN ⊢
          clear hc ho hV hnx HO hVV
          go_wp2_with (go_at_call 25; go_loud (refine (HOt.out _).mono ?_); rintro e w' ⟨rfl, rfl⟩)
          go_round
          case rel => exact ⟨k + 1, by omega, by omega, by go_num, by rw [HN.out]; exact congrArg (Value.int .i64) (by omega), HO2.out⟩
          case measure => simp [intOf]; omega
        · have hN : octN q = k := octN_is hk3 hkl HO.out (fun h3 c hc => by
            cases e : isOct c with
            | false => rfl
            | true => exact absurd ⟨h3, c, hc, e⟩ hgo)
          have HE2 : Hid (escR q = (UInt8.ofNat (octV (q.take k)), k)) := Lib.hid (by rw [HE.out, hN])
          have hst : (3 ≤ k) ∨ (k < 3 ∧ q.length ≤ k) ∨ (k < 3 ∧ k < q.length ∧ ∃ c, q[k]? = some c ∧ isOct c = false) := by
            by_cases h3 : k < 3
            · by_cases hkl2 : k < q.length
              · refine .inr (.inr ⟨h3, hkl2, _, List.getElem?_eq_getElem hkl2, ?_⟩)
                cases e : isOct q[k] with
                | false => rfl
                | true => exact absurd ⟨h3, _, List.getElem?_eq_getElem hkl2, e⟩ hgo
              · exact .inr (.inl ⟨h3, by omega⟩)
            · exact .inl (by omega)
          have hV := octV_le (q.take k) 3 (by rw [List.length_take]; omega) HO.out
          obtain ⟨V, hVV⟩ : ∃ V, octV (q.take k) = V := ⟨_, rfl⟩
          rw [hVV] at HE2 hV ⊢
          have hV5 : V < 512 := hV
          clear hN hgo HO HE hVV hV
          rcases hst with h3 | ⟨h3, h4⟩ | ⟨h3, h4, c, hc, ho⟩
          · go_wp2
            go_ret2
            refine ⟨?_, HK.out⟩
            rw [HQ.out, HE2.out]
            simp [UInt8.toNat_ofNat]
          · have h5 : ¬ (a : Int) + (k : Int) < (s.size : Int) := by omega
            go_wp2
            go_ret2
            refine ⟨?_, HK.out⟩
            rw [HQ.out, HE2.out]
            simp [UInt8.toNat_ofNat]
          · have hkz : a + k < s.size := by omega
            have hsk : s[a + k] = c := by have := HGq.out k hkz; rw [hc] at this; exact (Option.some.inj this).symm
            have HOt := Lib.hid (fun wx : World => r10octal_any (c.toNat : Int) wx)
            unfold isOct at ho
            rw [ho] at HOt
            clear hc ho
            go_wp2_with (go_at_call 25; go_loud (refine (HOt.out _).mono ?_); rintro e w' ⟨rfl, rfl⟩)
            go_ret2
            refine ⟨?_, HK.out⟩
            rw [HQ.out, HE2.out]
            simp [UInt8.toNat_ofNat]

end Go.Proofs.YtokpmakhhhlbkaaDoor
