/-
  Layer 5: the walk of WalkLoops.
-/
import Derived.Test.YtbcejodnjeklpaaDoorZLaw5W

set_option linter.unusedSimpArgs false
set_option linter.unusedVariables false

set_option maxRecDepth 100000
set_option maxHeartbeats 8000000
namespace Go.Proofs.YtbcejodnjeklpaaDoor
open Go Go.RowKit




theorem tN5 : ElemT Tryd.prog encN5 22 42 ⟨0, ByteArray.empty, 0, 0, ByteArray.empty⟩ 56 :=
  .of (.agg #[.int .i64 0, .string ByteArray.empty, .int .i64 0, .int .i64 0, .string ByteArray.empty]) Tryd.underlying22 (by kernel_rfl) rfl

theorem n5_lit2 (w : World) (A : Obj) (T : TypeId) (l : List N5) (cs : Array Value) (hcs : cs.toList = l.flatMap encN5.enc) (n : Nat) (hn : n = l.length) (hm : n ≤ maxLen) :
    Sl encN5 (fun _ => True) ((w.alloc A).alloc (.cells cs T)) (.slice (some ⟨w.heap.size + 1, 0, none⟩) n n) l := by
  have h := (own_lit (E := encN5) (e := T) (S := fun _ => True) (w := w.alloc A) l cs hcs n hn trivial hm).sl
  rw [show (w.alloc A).heap.size = w.heap.size + 1 by simp] at h
  exact h

theorem byte_str (wx : World) (z : Int) (i : Nat) (hi : i < 60) (hz : z = 65 + (i : Int)) :
    (convert 40 9 (.slice (some ⟨wx.heap.size, 0, none⟩) 1 1)).run Tryd.prog (wx.alloc (.cells #[.int .u8 z] 5)) = .ok (.string (nmL i)) (wx.alloc (.cells #[.int .u8 z] 5)) := by
  have h := run_convert_bytes_back (P := Tryd.prog) (wx.alloc (.cells #[.int .u8 z] 5)) 40 9 5 ⟨wx.heap.size, 0, none⟩ 1 [(65 + i).toUInt8] Tryd.underlying40 Tryd.underlying5 Tryd.underlying9 (fun j hj => by
    obtain rfl : j = 0 := by simpa using hj
    have h0 := boxed (Keeps.refl NoB (wx.alloc (.cells #[.int .u8 z] 5))) 0 (.int .u8 z) rfl
    rw [add_lit, Nat.zero_add, h0]
    show some (Value.int .u8 z) = some (Value.int .u8 (((65 + i).toUInt8.toNat : Nat) : Int))
    rw [nmL_byte hi, hz]
    rfl)
  exact h

theorem loops_any (W : World) (x : Int) (row : Bool) :
    Calls Tryd.prog 4 #[.int .i64 x, .bool row] W fun e w' => e = .returned (.bool true) ∧ Keeps NoB W w' := by
  have HA := Lib.hid anchor_any
  have hc : x < 1 ∨ (¬ x < 1 ∧ 60 < x) ∨ (¬ x < 1 ∧ ¬ 60 < x) := by omega
  rcases hc with z | ⟨z, z2⟩ | ⟨z, z2⟩
  · go_enter Tryd.func4, Tryd.ntmps4
    go_wp2_with (go_at_call 7; go_loud (refine (HA.out _).mono ?_); rintro e w1 ⟨rfl, hk1⟩)
    go_ret
    exact ⟨rfl, hk1⟩
  · go_enter Tryd.func4, Tryd.ntmps4
    go_wp2_with (go_at_call 7; go_loud (refine (HA.out _).mono ?_); rintro e w1 ⟨rfl, hk1⟩)
    go_ret
    exact ⟨rfl, hk1⟩
  · obtain ⟨n, rfl⟩ : ∃ n : Nat, x = n := ⟨x.toNat, by omega⟩
    have hn1 : 1 ≤ n := by omega
    have hn60 : n ≤ 60 := by omega
    go_enter Tryd.func4, Tryd.ntmps4
    go_upto_region 6 with (go_at_call 7; go_loud (refine (HA.out _).mono ?_); rintro e w1 ⟨rfl, hk1⟩)
    go_wp2_with fail
    go_loopw [5, 24] (fun v i wr => ∃ k : Nat, i = .int .i64 k ∧ k ≤ n ∧ Own encN5 42 (fun g => W.heap.size ≤ g) wr v (linksL n row k) ∧ Keeps NoB W wr) (fun _ i _ => n - (intOf i).toNat)
    case atStart => exact ⟨0, rfl, Nat.zero_le _, Own.nil _ _ _ _, hk1⟩
    case round =>
      rename_i wr
      obtain ⟨k, rfl, hk, ho, hkk⟩ := hrel
      by_cases hlt : k < n
      · have hlt' : (k : Int) < (n : Int) := by omega
        have hm := Int.emod_nonneg ((k : Int) + 1) (show (n : Int) ≠ 0 by omega)
        have hm2 := Int.emod_lt_of_pos ((k : Int) + 1) (show (0 : Int) < (n : Int) by omega)
        have hmm : ((k : Int) + 1) % (n : Int) = (((k + 1) % n : Nat) : Int) := by rw [Int.natCast_emod]; rfl
        have hcv1 := byte_str wr (wrap64 (65 + ((k : Int) + 1) % (n : Int)) % 256) ((k + 1) % n) (by have := Nat.mod_lt (k + 1) (show 0 < n by omega); omega) (by rw [← hmm]; unfold wrap64; omega)
        clear hm hm2 hmm
        go_upto_region 10 with fail
        have ka : Keeps NoB wr (wr.alloc (.cells #[.int .u8 (wrap64 (65 + ((k : Int) + 1) % (n : Int)) % 256)] 5)) := (Keeps.refl _ _).alloc _
        have ho1 := ho.keep ka (fun _ _ h => h)
        have hk2 := hkk.trans ka
        clear ho hkk hcv1 ka
        generalize wr.alloc (.cells #[.int .u8 (wrap64 (65 + ((k : Int) + 1) % (n : Int)) % 256)] 5) = w2 at *
        have hcv2 := byte_str w2 (65 + (k : Int)) k (by omega) (by omega)
        have hC : row = false ∨ (row = true ∧ ((k : Int) == (n : Int) - 1) = true) ∨ (row = true ∧ ((k : Int) == (n : Int) - 1) = false) := by
          cases row with
          | false => exact .inl rfl
          | true =>
            cases hb : ((k : Int) == (n : Int) - 1) with
            | true => exact .inr (.inl ⟨rfl, rfl⟩)
            | false => exact .inr (.inr ⟨rfl, rfl⟩)
        obtain ⟨X, hX⟩ : ∃ X, toL n row k = X := ⟨_, rfl⟩
        have HO := Lib.hid ho1
        have HK := Lib.hid hk2
        clear ho1 hk2
        rcases hC with rfl | ⟨rfl, hb⟩ | ⟨rfl, hb⟩
        · have e : X = nmL ((k + 1) % n) := by rw [← hX]; unfold toL; rw [if_neg (by simp)]
          replace hX := Lib.hid hX
          (subst e; go_upto_region 12 with fail; (go_wp2_with (at_builtin; go_loud (refine wpl_append rfl (.tmp 42) (.tmp 50) rfl tN5 (HO.out.keep (((Keeps.refl NoB _).alloc _).alloc _) (fun _ _ h => h)) (n5_lit2 _ _ _ [linkL n _ k] #[.int .i64 0, .string (nmL k), .int .i64 3, .int .i64 511, .string _] (by unfold linkL; rw [hX.out]; rfl) 1 rfl (by decide)) rfl rfl (by have := HK.out.size; simp; omega) (by rw [linksL_len]; simp [maxLen]; omega) (by rw [linksL_len]; simp; omega) ?_); intro v' w' ho' hk' hf')); go_roundw; (case rel => exact ⟨k + 1, by go_num, by omega, by rw [linksL_succ]; exact ho', ((HK.out.alloc _).alloc _).step hk' (fun g hg => .inr (HO.out.2 g hg))⟩); (case measure => simp [intOf]; omega))
        · have e : X = endB := by
            have h1 : (k : Int) = (n : Int) - 1 := by simpa using hb
            rw [← hX]; unfold toL; rw [if_pos ⟨rfl, by omega⟩]
          replace hX := Lib.hid hX
          (subst e; go_upto_region 12 with fail; (go_wp2_with (at_builtin; go_loud (refine wpl_append rfl (.tmp 42) (.tmp 50) rfl tN5 (HO.out.keep (((Keeps.refl NoB _).alloc _).alloc _) (fun _ _ h => h)) (n5_lit2 _ _ _ [linkL n _ k] #[.int .i64 0, .string (nmL k), .int .i64 3, .int .i64 511, .string _] (by unfold linkL; rw [hX.out]; rfl) 1 rfl (by decide)) rfl rfl (by have := HK.out.size; simp; omega) (by rw [linksL_len]; simp [maxLen]; omega) (by rw [linksL_len]; simp; omega) ?_); intro v' w' ho' hk' hf')); go_roundw; (case rel => exact ⟨k + 1, by go_num, by omega, by rw [linksL_succ]; exact ho', ((HK.out.alloc _).alloc _).step hk' (fun g hg => .inr (HO.out.2 g hg))⟩); (case measure => simp [intOf]; omega))
        · have e : X = nmL ((k + 1) % n) := by
            rw [← hX]; unfold toL; rw [if_neg ?_]
            rintro ⟨_, h⟩
            have : ¬ (k : Int) = (n : Int) - 1 := by simpa using hb
            omega
          replace hX := Lib.hid hX
          (subst e; go_upto_region 12 with fail; (go_wp2_with (at_builtin; go_loud (refine wpl_append rfl (.tmp 42) (.tmp 50) rfl tN5 (HO.out.keep (((Keeps.refl NoB _).alloc _).alloc _) (fun _ _ h => h)) (n5_lit2 _ _ _ [linkL n _ k] #[.int .i64 0, .string (nmL k), .int .i64 3, .int .i64 511, .string _] (by unfold linkL; rw [hX.out]; rfl) 1 rfl (by decide)) rfl rfl (by have := HK.out.size; simp; omega) (by rw [linksL_len]; simp [maxLen]; omega) (by rw [linksL_len]; simp; omega) ?_); intro v' w' ho' hk' hf')); go_roundw; (case rel => exact ⟨k + 1, by go_num, by omega, by rw [linksL_succ]; exact ho', ((HK.out.alloc _).alloc _).step hk' (fun g hg => .inr (HO.out.2 g hg))⟩); (case measure => simp [intOf]; omega))
      · obtain rfl : k = n := by omega
        clear HA
        have HO := Lib.hid ho
        have HK := Lib.hid hkk
        clear ho hkk hlt
        have hB5 : Built5 (ringL k row) := by
          refine ⟨fun o ho => ?_, by simp [ringL, linksL]; omega⟩
          rcases List.mem_append.1 ho with h | h
          · obtain ⟨i, _, rfl⟩ := List.mem_map.1 h
            exact ⟨by show (nmL i).size ≤ 300; rw [nmL_size]; omega, by show (toL k row i).size ≤ 5000; have := toL_size (n := k) (row := row) (i := i); omega⟩
          · obtain rfl : o = endL := by simpa using h
            exact ⟨by decide, by decide⟩
        replace hB5 := Lib.hid hB5
        go_upto_region 15 with (at_builtin; go_loud (refine wpl_append rfl (.tmp 53) (.tmp 55) rfl tN5 (HO.out.keep ((Keeps.refl NoB _).alloc _) (fun _ _ h => h)) (own_lit (S := fun _ => True) [endL] #[.int .i64 0, .string endB, .int .i64 1, .int .i64 0, .string ⟨#[]⟩] rfl 1 rfl trivial (by decide)).sl rfl rfl (by have := HK.out.size; simp; omega) (by rw [linksL_len]; simp [maxLen]; omega) (by rw [linksL_len]; simp; omega) ?_); intro v' w' ho' hk' hf')
        have hk2 : Keeps NoB W w' := (HK.out.alloc _).step hk' (fun g hg => .inr (HO.out.2 g hg))
        obtain ⟨p1, c1, rfl, hsl⟩ := ho'.sl
        have hrl : linksL k row k ++ [endL] = ringL k row := rfl
        rw [hrl] at hsl
        simp only [hrl]
        have HB := Lib.hid (built_any hsl hB5.out)
        clear HO HK ho' hk' hf' hrl hsl hB5
        generalize hrn : (ringL k row).length = rn at *
        go_upto_region 16 with (go_at_call 9; go_loud (refine HB.out.mono ?_); rintro e w3 ⟨a, p, c, rfl, hP, hT, hk3⟩; unfold refV)
        have hk13 := hk2.trans hk3
        obtain ⟨lk, up, h5⟩ := W5.of hP hT
        have hR := ring_all (row := row) hn60
        clear hP hT hk3 hk2 HB hk1
        obtain ⟨d, hd⟩ : ∃ d, (builtD (ringL k row)).1 = d := ⟨_, rfl⟩
        rw [hd] at h5 hR
        simp only [hd]
        have h5a := h5.on ((Keeps.refl NoB w3).alloc (.cells #[.slice p d.length c, .int .i64 room5] 28))
        have hk14 := hk13.alloc (.cells #[.slice p d.length c, .int .i64 room5] 28)
        generalize w3.alloc (.cells #[.slice p d.length c, .int .i64 room5] 28) = w4 at *
        generalize w3.heap.size = B at *
        have eA : nmL 0 = ⟨#[65]⟩ := rfl
        have hk9 : Keeps NoB w4 w4 := Keeps.refl _ _
        have F1 := fun (wx : World) (k : Keeps NoB w4 wx) => (h5a.on k).find 1 (nmL 0) true (by decide)
        have F2 := fun (wx : World) (k : Keeps NoB w4 wx) => (h5a.on k).find 1 (nmL 0) false (by decide)
        simp only [ring_find hR hn60 hn1 h5a.root] at F1
        simp only [ring_self hR hn60 hn1 h5a.root] at F2
        rw [eA] at F1 F2
        unfold plcV at F1 F2
        simp only at F2
        replace F1 := Lib.hid F1
        replace F2 := Lib.hid F2
        clear h5 h5a hR hk13 hd eA
        by_cases h60 : k = 60
        · have hb : ((k : Int) == 60) = true := by simp; omega
          clear F1 F2
          go_wp2_with fail
          go_ret
          exact ⟨rfl, hk14⟩
        have hb : ((k : Int) == 60) = false := by simp; omega
        have hC : (row = false ∨ (row = true ∧ (40 : Int) < (k : Int))) ∨ (row = true ∧ ¬ (40 : Int) < (k : Int)) := by
          cases row with
          | false => exact .inl (.inl rfl)
          | true =>
            by_cases h : (40 : Int) < (k : Int)
            · exact .inl (.inr ⟨rfl, h⟩)
            · exact .inr ⟨rfl, h⟩
        rcases hC with hC | ⟨rfl, h40⟩
        · have F3 := F1.out
          have hno : ¬ (row = true ∧ k ≤ 40) := by
            rintro ⟨h1, h2⟩
            rcases hC with h | ⟨_, h⟩
            · rw [h] at h1; cases h1
            · omega
          simp only [if_neg hno, Plc.no] at F3
          clear hno
          replace F3 := Lib.hid F3
          clear F1
          rcases hC with rfl | ⟨rfl, h40⟩
          · (go_upto_region 19 with (go_at_call 10; go_loud (refine (F3.out _ hk9).mono ?_); rintro e w5 ⟨rfl, hk5⟩); have P5 := c3_new (Keeps.refl NoB (w5.alloc (.cells #[.int .i64 0, .int .i64 0, .string ⟨#[]⟩] 35))); have hkA := (hk9.trans hk5).alloc (.cells #[.int .i64 0, .int .i64 0, .string ⟨#[]⟩] 35); clear hk9 hk5 F3; have hk9 := hkA; clear hkA; generalize w5.alloc (.cells #[.int .i64 0, .int .i64 0, .string ⟨#[]⟩] 35) = w6 at *; generalize w5.heap.size = B5 at *; (go_upto_region 20 with (go_at_call 10; go_loud (refine (F2.out _ hk9).mono ?_); rintro e w7 ⟨rfl, hk7⟩); have P7 := c3_new (Keeps.refl NoB (w7.alloc (.cells #[.int .i64 2, .int .i64 1, .string ⟨#[65]⟩] 35))); have Q5 := P5.on (hk7.alloc (.cells #[.int .i64 2, .int .i64 1, .string ⟨#[65]⟩] 35)); have hkA := (hk9.trans hk7).alloc (.cells #[.int .i64 2, .int .i64 1, .string ⟨#[65]⟩] 35); clear hk9 hk7 F2 P5; generalize w7.alloc (.cells #[.int .i64 2, .int .i64 1, .string ⟨#[65]⟩] 35) = w8 at *; generalize w7.heap.size = B7 at *; have a5 := Q5.c0; have b5 := Q5.c1; have c5 := Q5.c2; have l5 := Q5.lt; have a7 := P7.c0; have b7 := P7.c1; have c7 := P7.c2; have l7 := P7.lt; go_wp2_with fail; go_ret; exact ⟨rfl, hk14.trans hkA⟩))
          · (go_upto_region 19 with (go_at_call 10; go_loud (refine (F3.out _ hk9).mono ?_); rintro e w5 ⟨rfl, hk5⟩); have P5 := c3_new (Keeps.refl NoB (w5.alloc (.cells #[.int .i64 0, .int .i64 0, .string ⟨#[]⟩] 35))); have hkA := (hk9.trans hk5).alloc (.cells #[.int .i64 0, .int .i64 0, .string ⟨#[]⟩] 35); clear hk9 hk5 F3; have hk9 := hkA; clear hkA; generalize w5.alloc (.cells #[.int .i64 0, .int .i64 0, .string ⟨#[]⟩] 35) = w6 at *; generalize w5.heap.size = B5 at *; (go_upto_region 20 with (go_at_call 10; go_loud (refine (F2.out _ hk9).mono ?_); rintro e w7 ⟨rfl, hk7⟩); have P7 := c3_new (Keeps.refl NoB (w7.alloc (.cells #[.int .i64 2, .int .i64 1, .string ⟨#[65]⟩] 35))); have Q5 := P5.on (hk7.alloc (.cells #[.int .i64 2, .int .i64 1, .string ⟨#[65]⟩] 35)); have hkA := (hk9.trans hk7).alloc (.cells #[.int .i64 2, .int .i64 1, .string ⟨#[65]⟩] 35); clear hk9 hk7 F2 P5; generalize w7.alloc (.cells #[.int .i64 2, .int .i64 1, .string ⟨#[65]⟩] 35) = w8 at *; generalize w7.heap.size = B7 at *; have a5 := Q5.c0; have b5 := Q5.c1; have c5 := Q5.c2; have l5 := Q5.lt; have a7 := P7.c0; have b7 := P7.c1; have c7 := P7.c2; have l7 := P7.lt; go_wp2_with fail; go_ret; exact ⟨rfl, hk14.trans hkA⟩))
        · have F3 := F1.out
          simp only [if_pos (show true = true ∧ k ≤ 40 from ⟨rfl, by omega⟩)] at F3
          obtain ⟨Z, hZ⟩ : ∃ Z : Int, ((2 + k : Nat) : Int) = Z := ⟨_, rfl⟩
          simp only [hZ] at F3
          have hz : (Z != 0) = true := by simp; omega
          clear hZ
          replace F3 := Lib.hid F3
          clear F1
          go_upto_region 19 with (go_at_call 10; go_loud (refine (F3.out _ hk9).mono ?_); rintro e w5 ⟨rfl, hk5⟩)
          have P5 := c3_new (Keeps.refl NoB (w5.alloc (.cells #[.int .i64 Z, .int .i64 1, .string endB] 35)))
          have hkA := (hk9.trans hk5).alloc (.cells #[.int .i64 Z, .int .i64 1, .string endB] 35)
          clear hk9 hk5 F3
          have hk9 := hkA
          clear hkA
          generalize w5.alloc (.cells #[.int .i64 Z, .int .i64 1, .string endB] 35) = w6 at *
          generalize w5.heap.size = B5 at *
          (go_upto_region 20 with (go_at_call 10; go_loud (refine (F2.out _ hk9).mono ?_); rintro e w7 ⟨rfl, hk7⟩); have P7 := c3_new (Keeps.refl NoB (w7.alloc (.cells #[.int .i64 2, .int .i64 1, .string ⟨#[65]⟩] 35))); have Q5 := P5.on (hk7.alloc (.cells #[.int .i64 2, .int .i64 1, .string ⟨#[65]⟩] 35)); have hkA := (hk9.trans hk7).alloc (.cells #[.int .i64 2, .int .i64 1, .string ⟨#[65]⟩] 35); clear hk9 hk7 F2 P5; generalize w7.alloc (.cells #[.int .i64 2, .int .i64 1, .string ⟨#[65]⟩] 35) = w8 at *; generalize w7.heap.size = B7 at *; have a5 := Q5.c0; have b5 := Q5.c1; have c5 := Q5.c2; have l5 := Q5.lt; have a7 := P7.c0; have b7 := P7.c1; have c7 := P7.c2; have l7 := P7.lt; go_wp2_with fail; go_ret; exact ⟨rfl, hk14.trans hkA⟩)
end Go.Proofs.YtbcejodnjeklpaaDoor
