/-
  Layer 10: contracts: Unescape.
-/
import Derived.Test.YtokpmakhhhlbkaaDoorZFormW2

set_option linter.unusedSimpArgs false
set_option linter.unusedVariables false

set_option maxRecDepth 100000
set_option maxHeartbeats 4000000
namespace Go.Proofs.YtokpmakhhhlbkaaDoor
open Go Go.RowKit

/-- A text with its backslashes taken. -/
def unescL : List UInt8 → List UInt8
  | [] => []
  | c :: r => if c = 92 ∧ 0 < (escR r).2 then (escR r).1 :: unescL (r.drop (escR r).2) else c :: unescL r
termination_by l => l.length
decreasing_by all_goals simp <;> omega

theorem unescL_nil : unescL [] = [] := by rw [unescL]
theorem unescL_at {l : List UInt8} {k : Nat} {c : UInt8} (hc : l[k]? = some c) : unescL (l.drop k) = if c = 92 ∧ 0 < (escR (l.drop (k + 1))).2 then (escR (l.drop (k + 1))).1 :: unescL (l.drop (k + 1 + (escR (l.drop (k + 1))).2)) else c :: unescL (l.drop (k + 1)) := by
  obtain ⟨h1, h2⟩ := List.getElem?_eq_some_iff.1 hc
  rw [List.drop_eq_getElem_cons h1, h2, unescL, List.drop_drop]

theorem escR_le : ∀ l : List UInt8, (escR l).2 ≤ l.length
  | [] => Nat.le_refl _
  | c :: l => by
    cases h : lettC c with
    | some v => simp [escR, h]
    | none =>
      simp only [escR, h]
      unfold octN
      refine Nat.le_trans (List.IsPrefix.length_le (List.takeWhile_prefix _)) ?_
      rw [List.length_take]; omega

/-- An owned row of bytes, as a string. -/
theorem own_str {S : Nat → Prop} {w : World} {v : Value} {l : List UInt8} (h : Own encU8 5 S w v l) : (convert 23 9 v).run Tryd.prog w = .ok (.string ⟨l.toArray⟩) w := by
  rcases h.cases with ⟨rfl, rfl⟩ | ⟨g, cap, cur, rfl, _, hg, hcap, hmax, hsz, htk⟩
  · rw [run_convert_bytes_string w 23 9 5 none 0 0 Tryd.underlying23 Tryd.underlying5 Tryd.underlying9]
    rfl
  · have := run_convert_bytes_back (P := Tryd.prog) w 23 9 5 ⟨g, 0, none⟩ cap l Tryd.underlying23 Tryd.underlying5 Tryd.underlying9 (fun j hj => by
      rw [add_lit, Nat.zero_add, cell_of_row w g _ cur 5 (0, 0) hg, ← Array.getElem?_toList]
      have h1 := Enc.flat_get encU8 l j 0 (by decide)
      simp only [show encU8.k = 1 from rfl, Nat.mul_one, Nat.add_zero] at h1 htk
      rw [← htk, List.getElem?_take, if_pos hj] at h1
      rw [h1, List.getElem?_eq_getElem hj]
      rfl)
    simpa using this

theorem sub_list (s : ByteArray) (k : Nat) : (s.extract k s.size).data.toList = s.data.toList.drop k := by
  rw [data_extract, List.take_of_length_le (by rw [len_data]; exact Nat.le_refl _)]

theorem at92 (c : UInt8) : (c = 92 ∧ ((c.toNat : Int) == 92) = true) ∨ (c ≠ 92 ∧ ((c.toNat : Int) == 92) = false) := by
  by_cases h : c = 92
  · subst h; exact .inl ⟨rfl, rfl⟩
  · refine .inr ⟨h, ?_⟩
    have : c.toNat ≠ 92 := fun e => h (by apply UInt8.toNat_inj.1; rw [e]; rfl)
    simp; omega

theorem unescape_any (s : ByteArray) (w : World) (hs : s.size ≤ 1000000000) :
    Calls Tryd.prog 11 #[.string s] w fun e w' => e = .returned (.string ⟨(unescL s.data.toList).toArray⟩) ∧ Keeps NoB w w' := by
  have hl : s.data.toList.length = s.size := len_data s
  have HG := Lib.hid (fun (i : Nat) (h : i < s.size) => (show s.data.toList[i]? = some s[i] by rw [List.getElem?_eq_getElem (by rw [hl]; exact h)]; rfl))
  have HSub := Lib.hid (fun k => sub_list s k)
  obtain ⟨l, hls⟩ : ∃ l, s.data.toList = l := ⟨_, rfl⟩
  rw [hls] at hl HG HSub ⊢
  clear hls
  go_enter Tryd.func11, Tryd.ntmps11
  go_wp2
  refine wp_scope_goto 0 (fun a' w' => ∃ (k : Nat) (v : Value) (out : List UInt8), ∃ (u1 u2 u5 u6 u7 u8 u9 u10 u11 u12 u13 u14 u15 u16 u17 u18 u19 u20 u21 u22 u23 u24 u25 u26 u27 u28 u29 u30 u31 u32 u33 u34 u35 u36 u37 u38 u39 u40 u41 u42 u43 : Value), a' = { tmps := #[.string s, u1, u2, v, .int .i64 k, u5, u6, u7, u8, u9, u10, u11, u12, u13, u14, u15, u16, u17, u18, u19, u20, u21, u22, u23, u24, u25, u26, u27, u28, u29, u30, u31, u32, u33, u34, u35, u36, u37, u38, u39, u40, u41, u42, u43], defers := [] } ∧ k ≤ l.length ∧ out ++ unescL (l.drop k) = unescL l ∧ out.length ≤ k ∧ Own encU8 5 (fun g => w.heap.size ≤ g) w' v out ∧ Keeps NoB w w') (fun a' _ => l.length - (intOf (a'.tmps.getD 4 undef)).toNat) rfl ?_ ?_
  · intro HJ
    have HJ' := Lib.hid HJ
    clear HJ
    go_wp2
    go_step3
    go_step
    go_step
    refine HJ'.out _ _ ?_
    exact ⟨0, .slice none 0 0, [], _, _, _, _, _, _, _, _, _, _, _, _, _, _, _, _, _, _, _, _, _, _, _, _, _, _, _, _, _, _, _, _, _, _, _, _, _, _, _, _, _, rfl, Nat.zero_le _, rfl, Nat.le_refl _, Own.nil _ _ _ _, Keeps.refl _ _⟩
  · rintro a' w1 ⟨k, v, out, u1, u2, u5, u6, u7, u8, u9, u10, u11, u12, u13, u14, u15, u16, u17, u18, u19, u20, u21, u22, u23, u24, u25, u26, u27, u28, u29, u30, u31, u32, u33, u34, u35, u36, u37, u38, u39, u40, u41, u42, u43, rfl, hk, hout, hlen, hown, hkp⟩
    have HO := Lib.hid hout
    have HW := Lib.hid hown
    have HK := Lib.hid hkp
    have hsz := hkp.size
    clear hout hown hkp
    by_cases hke : k < l.length
    · obtain ⟨c, hc⟩ : ∃ c, l[k]? = some c := ⟨_, List.getElem?_eq_getElem hke⟩
      have hks : k < s.size := by omega
      have hsk : s[k] = c := by have := HG.out k hks; rw [hc] at this; exact (Option.some.inj this).symm
      have hun := Lib.hid (unescL_at hc)
      obtain ⟨x, hx⟩ : ∃ x, s.extract (k + 1) s.size = x := ⟨_, rfl⟩
      have hxl := HSub.out (k + 1)
      rw [hx] at hxl
      have hxs : x.size ≤ s.size := by rw [← hx, ByteArray.size_extract]; omega
      have HE := Lib.hid (fun wx : World => escape_any x wx (by omega))
      rw [hxl] at HE
      have hle := escR_le (l.drop (k + 1))
      rw [List.length_drop] at hle
      obtain ⟨⟨ec, en⟩, hen⟩ : ∃ E, escR (l.drop (k + 1)) = E := ⟨_, rfl⟩
      rw [hen] at HE hun hle
      simp only at HE hun hle
      clear hc hen hxl hxs
      rcases at92 c with ⟨rfl, hb⟩ | ⟨hne, hb⟩
      · by_cases h0 : 0 < en
        · have h0' : (0 : Int) < (en : Int) := by omega
          have hun2 := Lib.hid hun.out
          rw [if_pos ⟨rfl, h0⟩] at hun2
          clear hun
          go_wp2_with (first | (go_at_call 18; go_loud (refine (HE.out _).mono ?_); rintro e w' ⟨rfl, rfl⟩) | (at_builtin; go_loud (refine wpl_append rfl (.tmp 29) (.tmp 31) rfl tU8 (HW.out.keep ((Keeps.refl NoB w1).alloc _) (fun _ _ h => h)) (own_lit (E := encU8) (e := 5) (w := w1) (S := fun _ => True) [ec] #[.int .u8 (ec.toNat : Int)] rfl 1 rfl trivial (by decide)).sl rfl rfl (by simp; omega) (by simp [maxLen]; omega) (by simp; omega) ?_)))
          intro v' w2 ho2 hk2 hf2
          go_wp2_with fail
          go_step3
          refine ⟨rfl, ⟨k + en + 1, v', out ++ [ec], _, _, _, _, _, _, _, _, _, _, _, _, _, _, _, _, _, _, _, _, _, _, _, _, _, _, _, _, _, _, _, _, _, _, _, _, _, _, _, _, _, rfl, by omega, ?_, by simp; omega, ho2, (HK.out.alloc _).step hk2 (fun g hg => .inr (HW.out.2 g hg))⟩, by simp [intOf]; omega⟩
          rw [← HO.out, hun2.out, show k + en + 1 = k + 1 + en by omega]
          simp
        · have h0' : ¬ (0 : Int) < (en : Int) := by omega
          have hun2 := Lib.hid hun.out
          rw [if_neg (fun h => h0 h.2)] at hun2
          clear hun
          go_wp2_with (first | (go_at_call 18; go_loud (refine (HE.out _).mono ?_); rintro e w' ⟨rfl, rfl⟩) | (at_builtin; go_loud (refine wpl_append rfl (.tmp 36) (.tmp 40) rfl tU8 (HW.out.keep ((Keeps.refl NoB w1).alloc _) (fun _ _ h => h)) (own_lit (E := encU8) (e := 5) (w := w1) (S := fun _ => True) [92] #[.int .u8 (((92 : UInt8)).toNat : Int)] rfl 1 rfl trivial (by decide)).sl rfl rfl (by simp; omega) (by simp [maxLen]; omega) (by simp; omega) ?_)))
          intro v' w2 ho2 hk2 hf2
          go_wp2_with fail
          go_step3
          refine ⟨rfl, ⟨k + 1, v', out ++ [92], _, _, _, _, _, _, _, _, _, _, _, _, _, _, _, _, _, _, _, _, _, _, _, _, _, _, _, _, _, _, _, _, _, _, _, _, _, _, _, _, _, rfl, by omega, ?_, by simp; omega, ho2, (HK.out.alloc _).step hk2 (fun g hg => .inr (HW.out.2 g hg))⟩, by simp [intOf]; omega⟩
          rw [← HO.out, hun2.out]
          simp
      · have hun2 := Lib.hid hun.out
        rw [if_neg (fun h => hne h.1)] at hun2
        clear hun hne
        go_wp2_with (first | (go_at_call 18; go_loud (refine (HE.out _).mono ?_); rintro e w' ⟨rfl, rfl⟩) | (at_builtin; go_loud (refine wpl_append rfl (.tmp 36) (.tmp 40) rfl tU8 (HW.out.keep ((Keeps.refl NoB w1).alloc _) (fun _ _ h => h)) (own_lit (E := encU8) (e := 5) (w := w1) (S := fun _ => True) [c] #[.int .u8 (c.toNat : Int)] rfl 1 rfl trivial (by decide)).sl rfl rfl (by simp; omega) (by simp [maxLen]; omega) (by simp; omega) ?_)))
        intro v' w2 ho2 hk2 hf2
        go_wp2_with fail
        go_step3
        refine ⟨rfl, ⟨k + 1, v', out ++ [c], _, _, _, _, _, _, _, _, _, _, _, _, _, _, _, _, _, _, _, _, _, _, _, _, _, _, _, _, _, _, _, _, _, _, _, _, _, _, _, _, _, rfl, by omega, ?_, by simp; omega, ho2, (HK.out.alloc _).step hk2 (fun g hg => .inr (HW.out.2 g hg))⟩, by simp [intOf]; omega⟩
        rw [← HO.out, hun2.out]
        simp
    · obtain rfl : k = l.length := by omega
      have hcv := own_str HW.out
      have hout : out = unescL l := by have := HO.out; rw [List.drop_length, unescL_nil, List.append_nil] at this; exact this
      rw [hout] at hcv
      obtain ⟨u, hu⟩ : ∃ u, unescL l = u := ⟨_, rfl⟩
      rw [hu] at hcv
      have HU := Lib.hid hu
      clear hout hu
      go_wp2_with fail
      simp only [Exit.jump]
      go_ret
      exact ⟨by rw [HU.out]; rfl, HK.out⟩


end Go.Proofs.YtokpmakhhhlbkaaDoor
