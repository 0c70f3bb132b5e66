/-
  Layer 7's statements: the walk of FdOnce.
-/
import Derived.Test.YtbmalnllppamdaaGreatDoorZLaw7C
import Derived.Test.YtbmalnllppamdaaGreatDoorZFdY
import Derived.Test.YtbmalnllppamdaaGreatDoorZOnceM2

set_option linter.unusedSimpArgs false
set_option linter.unusedVariables false

set_option maxRecDepth 100000
set_option maxHeartbeats 8000000
namespace Go.Proofs.YtbmalnllppamdaaGreatDoor
open Go Go.RowKit

/-- Between the writes. -/
structure OJ (ap : Bool) (W wr : World) (F a B T M : Nat) (cs : List Value) (b1 k : Nat) (A V D : ByteArray) (Z : FdZ) (l : List (Int × Nat)) (d : Nds) (calls : Int) : Prop where
  fx : FdY W (fun g => g = B) Z wr F a d 65536 calls (-1)
  bx : Bx wr B cs
  st : OSt ap Z T M l b1 k d A V D
  c0 : 0 ≤ calls
  c1 : calls ≤ 1 + 2 * (k : Int)

theorem once_any {S1 : Nat → Prop} {W : World} {pl : Option Addr} {cl : Nat} {ls : List ByteArray} (h : SlAt encStr S1 W pl cl ls) (apart : Bool) :
    Calls Tryz.prog 3 #[.slice pl ls.length cl, .bool apart] W fun e w' => e = .returned (.bool true) ∧ Keeps NoB W w' := by
  have hcap := h.cap
  have hmax := h.max
  unfold maxLen at hmax
  have HA := Lib.hid anchor7_any
  have hc : (ls.length : Int) < 1 ∨ (¬ (ls.length : Int) < 1 ∧ (20 : Int) < (ls.length : Int)) ∨ (¬ (ls.length : Int) < 1 ∧ ¬ (20 : Int) < (ls.length : Int)) := by omega
  rcases hc with z | ⟨z, z2⟩ | ⟨z, z2⟩
  · go_enter Tryz.func3, Tryz.ntmps3
    go_wp2_with (go_at_call 10; go_loud (refine (HA.out _).mono ?_); rintro e w1 ⟨rfl, hk1⟩)
    go_ret
    exact ⟨rfl, hk1⟩
  · go_enter Tryz.func3, Tryz.ntmps3
    go_wp2_with (go_at_call 10; go_loud (refine (HA.out _).mono ?_); rintro e w1 ⟨rfl, hk1⟩)
    go_ret
    exact ⟨rfl, hk1⟩
  have HB := Lib.hid (fun wx : World => begun_any wx 65536 (-1) (by decide) (by decide))
  go_enter Tryz.func3, Tryz.ntmps3
  go_upto_region 6 with (first | (go_at_call 10; go_loud (refine (HA.out _).mono ?_); rintro e w1 ⟨rfl, hk1⟩) | (go_at_call 11; go_loud (refine (HB.out _).mono ?_); rintro e w2 ⟨F, a, B, T, M, T1, M1, L, N, rfl, hN, hNB, hBg, hlt, hBx, hFS, hk2⟩))
  have HX0 : Hid (FdY W (fun g => g = B) (newZ (newZ noZ T M) T1 M1) w2 F a newD 65536 0 (-1)) := ⟨⟨N, fun g hg => hg.elim (fun hg => hN g (Nat.lt_of_lt_of_le hg hk1.size)) (fun e => by rw [e]; exact hNB), hFS⟩, hk1.trans hk2⟩
  have HBx := Lib.hid hBx
  have b0 := hBx.cell 0 _ rfl
  have b1 := hBx.cell 1 _ rfl
  have HU := Lib.hid user7_any
  have hT : (newZ (newZ noZ T M) T1 M1).tm T = some M := by simp [newZ]; omega
  have hTK : (newZ (newZ noZ T M) T1 M1).kv T = [] := by simp [newZ]
  have hop : ∀ c, (newZ (newZ noZ T M) T1 M1).op c = none := fun c => rfl
  clear HA HB hk1 hk2 hN hFS hlt hBx
  generalize newZ (newZ noZ T M) T1 M1 = Z0 at *
  obtain ⟨o1, o2⟩ := once_open
  have HO : Hid (∀ wx : World, FdY W (fun g => g = B) Z0 wx F a newD 65536 0 (-1) → _) := fun wx hx => hx.callE fun N hN => fdOpen_ok hN hT 1 (by decide) (by decide) (by decide) (by decide) (by rw [mass_new]; decide) (fun b o h => by rw [hop] at h; cases h) 1 18 ⟨#[97]⟩ 6 384 (by decide) (by rw [o1])
  rw [o1, show openN 0 (bareF 6) = 1 by decide] at HO
  have HO2 := Lib.hid o2
  have HM := Lib.hid (openF_mass (d := newD) (room := 65536) 0 (-1) 1 18 ⟨#[97]⟩ (bareF 6) 384)
  rw [mass_new] at HM
  generalize (openF 0 (-1) newD 65536 1 18 ⟨#[97]⟩ (bareF 6) 384).1 = d1 at *
  clear o1 o2
  have HT := Lib.hid hT
  have HTK := Lib.hid hTK
  have Hop := Lib.hid hop
  clear hT hTK hop
  go_upto_region 9 with fail
  go_upto_region 11 with (first | (go_at_call 13; go_loud (refine (HU.out _).mono ?_); rintro e w3 ⟨rfl, hk3⟩) | (go_at_call 12; go_loud (refine (HO.out _ (HX0.out.on hk3)).mono ?_); rintro e w4 ⟨b, hb, rfl, hX4, hk4⟩))
  obtain ⟨a4, f4⟩ := AS.begin (K := 100) (b := b) (o := ⟨none, 2, 0, 6, 0⟩) HT.out HTK.out (fun c oc hc => by rw [Hop.out] at hc; cases hc) (by decide) d1
  rw [f4] at hX4
  have HB4 := Lib.hid ((HBx.out.on hk3).keep hk4 (fun h => h (.inr rfl)))
  obtain ⟨cs, hcs⟩ : ∃ cs, [Value.pointer (some ⟨F, 0, none⟩), .pointer (some ⟨T, 0, none⟩), .pointer (some ⟨T1, 0, none⟩)] ++ L = cs := ⟨_, rfl⟩
  have HC0 : Hid (cs[0]? = some (.pointer (some ⟨F, 0, none⟩))) := by rw [← hcs]; rfl
  rw [hcs] at HB4
  have HJ0 : Hid (OJ apart W w4 F a B T M cs b 0 ⟨#[]⟩ ⟨#[]⟩ ⟨#[]⟩ (putZ (addZ Z0 b ⟨none, 2, 0, 6, 0⟩) T 1 b) [(1, b)] d1 1) := ⟨hX4, HB4.out, OSt.start a4 HO2.out HM.out, by decide, by decide⟩
  generalize putZ (addZ Z0 b ⟨none, 2, 0, 6, 0⟩) T 1 b = Z1 at *
  clear hX4 hk4 hk3 HB4 HBx b0 b1 HT HTK Hop HO HO2 HM HX0 a4 f4 hb hcs hNB hBg
  go_wp2_with fail
  go_loopw [7, 8, 44] (fun va vv i wr => ∃ (k : Nat) (A V D : ByteArray) (Z : FdZ) (l : List (Int × Nat)) (d : Nds) (calls : Int), k ≤ ls.length ∧ i = .int .i64 k ∧ va = .string A ∧ vv = .string V ∧ OJ apart W wr F a B T M cs b k A V D Z l d calls) (fun _ _ i _ => ls.length + 1 - (intOf i).toNat)
  case atStart => exact ⟨0, ⟨#[]⟩, ⟨#[]⟩, ⟨#[]⟩, Z1, [(1, b)], d1, 1, Nat.zero_le _, rfl, rfl, rfl, HJ0.out⟩
  case round =>
    obtain ⟨k, A, V, D, Z, l, d, calls, hk, rfl, rfl, rfl, hJ⟩ := hrel
    have HJ := Lib.hid hJ
    clear hJ HJ0
    have hc0 := HJ.out.c0
    have hc1 : calls ≤ 4611686018427387904 := by have := HJ.out.c1; omega
    have hla : A.size ≤ 2000 := by have := HJ.out.st.la; omega
    have hlv := HJ.out.st.lv
    have hlD : D.size ≤ 2000 := by have := HJ.out.st.data; rw [this]; split <;> omega
    by_cases hlt : k < ls.length
    · obtain ⟨s, hs⟩ : ∃ s, ls[k]? = some s := ⟨_, List.getElem?_eq_getElem hlt⟩
      obtain ⟨gb, off, rfl, _, hg, t0⟩ := (h.keepN HJ.out.fx.keeps).str hs
      clear hs
      by_cases z5 : 100 < s.size
      · have z5' : (100 : Int) < (s.size : Int) := by omega
        have HK := Lib.hid HJ.out.fx.keeps
        clear HJ
        go_wp2_with fail
        go_ret
        exact ⟨rfl, HK.out⟩
      have z5' : ¬ (100 : Int) < (s.size : Int) := by omega
      have hk20 : k < 20 := by omega
      obtain ⟨m, hm⟩ : ∃ m, min s.size V.size = m := ⟨_, rfl⟩
      have hmV : m ≤ V.size := by rw [← hm]; exact Nat.min_le_right _ _
      have hmn : min (s.size : Int) (V.size : Int) = (m : Int) := by rw [← hm]; omega
      obtain ⟨rest, hrest⟩ : ∃ rest, V.extract m V.size = rest := ⟨_, rfl⟩
      have HNV : Hid (s ++ rest = nextV V s) := by unfold nextV; rw [hm, hrest]; exact rfl
      have hrs : rest.size ≤ 100 := by rw [← hrest, ByteArray.size_extract]; omega
      have hcatA : (9223372036854775807 < A.size + s.size) = False := by simp; omega
      have hcatV : (9223372036854775807 < s.size + rest.size) = False := by simp; omega
      have hz : (s = ⟨#[]⟩ ∧ s.toList.isEmpty = true) ∨ (s ≠ ⟨#[]⟩ ∧ s.toList.isEmpty = false) := by
        rw [isEmpty_eq]
        by_cases e : s = ⟨#[]⟩
        · exact .inl ⟨e, by simp [e]⟩
        · exact .inr ⟨e, by simp [e]⟩
      clear hm
      cases apart with
      | false =>
        obtain ⟨o, q1, q2, q3, q4, q5, q6⟩ := HJ.out.st.dup hk20
        have HD := Lib.hid (HJ.out.fx.call fun N hN => fdDup_ok hN HJ.out.st.tb.choose_spec.1.tm 1 (2 + (k : Int)) (by omega) (by omega) (by omega) q3 q1 q2)
        rw [q4] at HD
        have H5 := Lib.hid q5
        have H6 := Lib.hid q6
        obtain ⟨Z5, hZ5⟩ : ∃ Z5, putZ Z T (2 + (k : Int)) b = Z5 := ⟨_, rfl⟩
        obtain ⟨l5, hl5⟩ : ∃ l5, l ++ [(2 + (k : Int), b)] = l5 := ⟨_, rfl⟩
        rw [hZ5] at HD H5
        rw [hl5] at H5 H6
        have HL5 := Lib.hid hl5
        clear q1 q2 q3 q4 q5 q6 hZ5 hl5
        go_upto_region 21 with (go_at_call 14; go_loud (refine HD.out.mono ?_); rintro e w5 ⟨rfl, hX5, hk5⟩)
        have HX5 := Lib.hid hX5
        have HB5 := Lib.hid (HJ.out.bx.keep hk5 (fun h => h (.inr rfl)))
        have hDA : D = A := by simpa using HJ.out.st.data
        subst hDA
        have HOne : Hid (One d 2 [((⟨#[97]⟩ : ByteArray), (2 : Int))] 384 1 D) := Lib.hid (by have := HJ.out.st.one; simpa using this)
        clear hX5 hk5 HD t0
        rcases hz with ⟨rfl, he⟩ | ⟨hne, he⟩
        · have HW := Lib.hid (HX5.out.asks fun N hN => fdWrite_none hN H5.out.tm (2 + (k : Int)) (by rw [H5.out.kv]; exact H6.out) H5.out.op (show flg 6 2 = true by decide))
          have HSt := Lib.hid (HJ.out.st.dupped (s := ⟨#[]⟩) (Z' := Z5) (d' := d) (by rw [app_nil, HL5.out]; exact H5.out) (by rw [app_nil]; exact HOne.out) (by decide) (Nat.le_refl _))
          rw [HL5.out] at HSt
          go_upto_region 23 with (go_at_call 15; go_loud (refine HW.out.mono ?_); rintro e w6 ⟨rfl, rfl⟩)
          go_wp2_with fail
          go_roundw
          case rel => exact ⟨k + 1, D ++ ⟨#[]⟩, nextV V ⟨#[]⟩, D ++ ⟨#[]⟩, Z5, l5, d, calls, by omega, by go_num, rfl, by rw [show (min (0 : Int) (V.size : Int)).toNat = min (ByteArray.size ⟨#[]⟩) V.size by show _ = min 0 V.size; omega]; rfl, HX5.out, HB5.out, HSt.out, hc0, by have := HJ.out.c1; omega⟩
          case measure => simp [intOf]; omega
        · have hs0 : s.size ≠ 0 := fun e => hne (by apply ba_ext; have : s.data.toList.length = 0 := by { rw [len_data]; exact e }; exact List.eq_nil_of_length_eq_zero this)
          obtain ⟨v1, v2⟩ := one_writeG (room := 65536) HOne.out D.size s hs0 (by omega) (by show (1 : Int) + _ ≤ _; omega)
          have hwk := wrt_ok hc0 v1
          have HW := Lib.hid (HX5.out.call fun N hN => fdWrite_file hN H5.out.tm (2 + (k : Int)) (by rw [H5.out.kv]; exact H6.out) H5.out.op rfl (show flg 6 2 = true by decide) (show flg 6 32 = false by decide) hc0 hc1 s hne (by omega) (by constructor <;> simp only <;> omega))
          simp only [hwk, if_true] at HW
          rw [wrD_end] at v2
          have hmv := HJ.out.st.dupped (s := s) (Z' := Z5.setOp b ((Opn.mk none 2 (D.size : Int) 6 (2 + (k : Int))).to ((D.size : Int) + (s.size : Int)))) (d' := writeTo d 65536 2 (D.size : Int) s)
            (by rw [HL5.out]; have := H5.out.move ((D.size : Int) + (s.size : Int)); rw [ByteArray.size_append]; push_cast; exact this) v2 (by omega) (writeTo_mass _ _ _)
          rw [HL5.out] at hmv
          have HSt := Lib.hid hmv
          clear v1 v2 hwk hmv
          generalize Z5.setOp b ((Opn.mk none 2 (D.size : Int) 6 (2 + (k : Int))).to ((D.size : Int) + (s.size : Int))) = Z6 at *
          generalize writeTo d 65536 2 (D.size : Int) s = d6 at *
          go_upto_region 23 with (go_at_call 15; go_loud (refine HW.out.mono ?_); rintro e w6 ⟨rfl, hX6, hk6⟩)
          have HX6 := Lib.hid hX6
          have HB6 := Lib.hid (HB5.out.keep hk6 (fun h => h (.inr rfl)))
          clear hX6 hk6 HW hne
          go_wp2_with fail
          go_roundw
          case rel => exact ⟨k + 1, D ++ s, nextV V s, D ++ s, Z6, l5, d6, calls + 1, by omega, by go_num, rfl, by rw [HNV.out], HX6.out, HB6.out, HSt.out, by omega, by have := HJ.out.c1; omega⟩
          case measure => simp [intOf]; omega
      | true =>
        have hlow : b < wr.heap.size := by
          obtain ⟨N2, _, hS⟩ := HJ.out.fx.ex
          obtain ⟨at', ha, _⟩ := HJ.out.st.tb
          exact (hS.opn b _ ha.op).1.lt
        have hDV : D = V := by simpa using HJ.out.st.data
        subst hDV
        have HOne : Hid (One d 2 [((⟨#[97]⟩ : ByteArray), (2 : Int))] 384 (1 + (k : Int)) D) := Lib.hid (by have := HJ.out.st.one; simpa using this)
        obtain ⟨o1, o2⟩ := once_again HOne.out calls 18 2 0 (.inr rfl)
        have hms : mass d + 3 ≤ 2147483648 := by have := HJ.out.st.ms; omega
        have HO : Hid (∀ wx : World, FdY W (fun g => g = B) Z wx F a d 65536 calls (-1) → _) := fun wx hx => hx.callE fun N hN => fdOpen_ok hN HJ.out.st.tb.choose_spec.1.tm (2 + (k : Int)) (by omega) (by omega) hc0 hc1 hms (fun c oc hc => by have := HJ.out.st.tb.choose_spec.1.ub c oc hc; omega) 1 18 ⟨#[97]⟩ 2 0 (by decide) (by rw [o1])
        rw [o1, show openN calls (bareF 2) = calls by unfold openN; rw [if_neg (by decide)]] at HO
        have HO2 := Lib.hid o2
        have HM := Lib.hid (openF_mass (d := d) (room := 65536) calls (-1) 1 18 ⟨#[97]⟩ (bareF 2) 0)
        generalize (openF calls (-1) d 65536 1 18 ⟨#[97]⟩ (bareF 2) 0).1 = d5 at *
        clear o1 o2 hms
        go_upto_region 21 with (first | (go_at_call 13; go_loud (refine (HU.out _).mono ?_); rintro e w4 ⟨rfl, hk4⟩) | (go_at_call 12; go_loud (refine (HO.out _ (HJ.out.fx.on hk4)).mono ?_); rintro e w5 ⟨b5, hb5, rfl, hX5, hk5⟩))
        have hbb : b5 ≠ b := by have := hk4.size; omega
        obtain ⟨o, q1, q2, q3, q4, q5, q6⟩ := HJ.out.st.open hbb hk20
        rw [q6] at hX5
        have HX5 := Lib.hid hX5
        have HB5 := Lib.hid ((HJ.out.bx.on hk4).keep hk5 (fun h => h (.inr rfl)))
        have H5 := Lib.hid q2
        have HQ := Lib.hid q3
        have H6 := Lib.hid q5
        have H7 := Lib.hid q4
        generalize putZ (addZ Z b5 ⟨none, 2, 0, 2, 0⟩) T (2 + (k : Int)) b5 = Z5 at *
        obtain ⟨l5, hl5⟩ : ∃ l5, l ++ [(2 + (k : Int), b5)] = l5 := ⟨_, rfl⟩
        rw [hl5] at H5 H6
        have HL5 := Lib.hid hl5
        clear q1 q2 q3 q4 q5 q6 hl5 hX5 hk5 hk4 HO t0 hb5 hlow
        rcases hz with ⟨rfl, he⟩ | ⟨hne, he⟩
        · have HW := Lib.hid (HX5.out.asks fun N hN => fdWrite_none hN H5.out.tm (2 + (k : Int)) (by rw [H5.out.kv]; exact H6.out) H7.out (show flg 2 2 = true by decide))
          have HSt := Lib.hid (HJ.out.st.opened (s := ⟨#[]⟩) (Z' := Z5) (b := b5) (o := o) (d' := d5) (by rw [HL5.out]; exact H5.out) HQ.out (by rw [nextV_nil]; have := HO2.out; push_cast; rw [← Int.add_assoc]; exact this) (by decide) HM.out)
          rw [HL5.out] at HSt
          go_upto_region 23 with (go_at_call 15; go_loud (refine HW.out.mono ?_); rintro e w6 ⟨rfl, rfl⟩)
          go_wp2_with fail
          go_roundw
          case rel => exact ⟨k + 1, A ++ ⟨#[]⟩, nextV D ⟨#[]⟩, nextV D ⟨#[]⟩, Z5, l5, d5, calls, by omega, by go_num, rfl, by rw [show (min (0 : Int) (D.size : Int)).toNat = min (ByteArray.size ⟨#[]⟩) D.size by show _ = min 0 D.size; omega]; rfl, HX5.out, HB5.out, HSt.out, hc0, by have := HJ.out.c1; omega⟩
          case measure => simp [intOf]; omega
        · have hs0 : s.size ≠ 0 := fun e => hne (by apply ba_ext; have : s.data.toList.length = 0 := by { rw [len_data]; exact e }; exact List.eq_nil_of_length_eq_zero this)
          obtain ⟨v1, v2⟩ := one_writeG (room := 65536) HO2.out 0 s hs0 (by omega) (by show (1 : Int) + _ ≤ _; omega)
          have hwk := wrt_ok hc0 v1
          have HW := Lib.hid (HX5.out.call fun N hN => fdWrite_file hN H5.out.tm (2 + (k : Int)) (by rw [H5.out.kv]; exact H6.out) H7.out rfl (show flg 2 2 = true by decide) (show flg 2 32 = false by decide) hc0 hc1 s hne (by omega) (by constructor <;> simp only <;> omega))
          simp only [Int.natCast_zero] at hwk v1 v2
          simp only [hwk, if_true] at HW
          rw [wrD_zero] at v2
          have hmv := HJ.out.st.opened (s := s) (b := b5) (o := o) (Z' := Z5.setOp b5 ((Opn.mk none 2 0 2 1).to (0 + (s.size : Int)))) (d' := writeTo d5 65536 2 0 s)
            (by rw [HL5.out]; exact H5.out.to hbb (show (-100 : Int) ≤ 1 ∧ (1 : Int) ≤ 100 by decide)) HQ.out (by push_cast; rw [← Int.add_assoc]; exact v2) (by omega) (Nat.le_trans (writeTo_mass _ _ _) HM.out)
          rw [HL5.out] at hmv
          have HSt := Lib.hid hmv
          clear v1 v2 hwk hmv
          generalize Z5.setOp b5 ((Opn.mk none 2 0 2 1).to (0 + (s.size : Int))) = Z6 at *
          generalize writeTo d5 65536 2 0 s = d6 at *
          go_upto_region 23 with (go_at_call 15; go_loud (refine HW.out.mono ?_); rintro e w6 ⟨rfl, hX6, hk6⟩)
          have HX6 := Lib.hid hX6
          have HB6 := Lib.hid (HB5.out.keep hk6 (fun h => h (.inr rfl)))
          clear hX6 hk6 HW hne
          go_wp2_with fail
          go_roundw
          case rel => exact ⟨k + 1, A ++ s, nextV D s, nextV D s, Z6, l5, d6, calls + 1, by omega, by go_num, rfl, by rw [HNV.out], HX6.out, HB6.out, HSt.out, by omega, by have := HJ.out.c1; omega⟩
          case measure => simp [intOf]; omega
    · obtain rfl : k = ls.length := by omega
      have hDD := HJ.out.st.data
      have hms : mass d + 3 ≤ 2147483648 := by have := HJ.out.st.ms; omega
      have hlow : b < wr.heap.size := by
        obtain ⟨N2, _, hS⟩ := HJ.out.fx.ex
        obtain ⟨at', ha, _⟩ := HJ.out.st.tb
        exact (hS.opn b _ ha.op).1.lt
      obtain ⟨at9, ha9, _⟩ := HJ.out.st.tb
      have HND := Lib.hid (HJ.out.fx.asks fun N hN => fdNode_file hN ha9.tm 1 (by rw [ha9.kv]; exact ha9.one) ha9.op rfl)
      simp only at HND
      have hub : ∀ c oc, Z.op c = some oc → -2305843009213693952 ≤ oc.uses ∧ oc.uses ≤ 2305843009213693952 := fun c oc hc => by have := ha9.ub c oc hc; omega
      have hone := HJ.out.st.one
      have HRd := Lib.hid (HJ.out.fx.asks fun N hN => fread_any hN.fs 2 0 10000)
      obtain ⟨r1, r2⟩ := one_read hone 0 10000
      have e1 : readOf d 2 0 10000 = D := r1.trans (cut_whole (by omega))
      have e2 : readErr d 2 0 10000 = 0 := r2
      rw [e1, e2] at HRd
      have b0 := HJ.out.bx.cell 0 _ HC0.out
      obtain ⟨o1, o2⟩ := once_again hone calls 18 1 0 (.inl rfl)
      have HO : Hid (∀ wx : World, FdY W (fun g => g = B) Z wx F a d 65536 calls (-1) → _) := fun wx hx => hx.callE fun N hN => fdOpen_ok hN ha9.tm 40 (by decide) (by decide) hc0 hc1 hms hub 1 18 ⟨#[97]⟩ 1 0 (by decide) (by rw [o1])
      rw [o1, show openN calls (bareF 1) = calls by unfold openN; rw [if_neg (by decide)]] at HO
      obtain ⟨hd5, HO2⟩ : ∃ h5, One (openF calls (-1) d 65536 1 18 ⟨#[97]⟩ (bareF 1) 0).1 2 [((⟨#[97]⟩ : ByteArray), (2 : Int))] 384 h5 D := ⟨_, o2⟩
      generalize (openF calls (-1) d 65536 1 18 ⟨#[97]⟩ (bareF 1) 0).1 = d5 at *
      have HOn := Lib.hid HO2
      have HDD := Lib.hid hDD
      clear r1 r2 e1 e2 o1 o2 HO2 hub hone ha9 hDD
      go_upto_region 31 with (first | (go_at_call 16; go_loud (refine HND.out.mono ?_); rintro e w4 ⟨rfl, rfl⟩) | (go_at_call 17; go_loud (refine HRd.out.mono ?_); rintro e w4 ⟨rfl, rfl⟩) | (go_at_call 13; go_loud (refine (HU.out _).mono ?_); rintro e w4 ⟨rfl, hk4⟩) | (go_at_call 12; go_loud (refine (HO.out _ (HJ.out.fx.on hk4)).mono ?_); rintro e w5 ⟨b5, hb5, rfl, hX5, hk5⟩))
      have hbb : b5 ≠ b := by have := hk4.size; omega
      obtain ⟨q1, q2, q3, q4, q5, q6, q7⟩ := HJ.out.st.last hbb (by omega)
      rw [q7] at hX5
      have HX5 := Lib.hid hX5
      have H4 := Lib.hid q4
      have H5 := Lib.hid q5
      have H6 := Lib.hid q6
      generalize putZ (addZ Z b5 ⟨none, 2, 0, 1, 0⟩) T 40 b5 = Z5 at *
      have eA : readOf d5 2 0 4194304 = D := (one_read HOn.out 0 4194304).1.trans (cut_whole (by omega))
      have eB : readErr d5 2 0 4194304 = 0 := (one_read HOn.out 0 4194304).2
      have eC : readOf d5 2 (0 + (D.size : Int)) 4194304 = ⟨#[]⟩ := by rw [Int.zero_add]; exact (one_read HOn.out D.size 4194304).1.trans cut_none
      have eD : readErr d5 2 (0 + (D.size : Int)) 4194304 = 0 := by rw [Int.zero_add]; exact (one_read HOn.out D.size 4194304).2
      have HA1 := Lib.hid (HX5.out.call fun N hN => fdAll_file hN H4.out 40 H6.out H5.out rfl (show flg 1 1 = true by decide) eA eB (by omega) (by constructor <;> simp only <;> omega))
      have HA2 : Hid (∀ wx : World, FdY W (fun g => g = B) (Z5.setOp b5 ((Opn.mk none 2 0 1 1).to (0 + (D.size : Int)))) wx F a d5 65536 calls (-1) → _) := fun wx hx => hx.call fun N hN => fdAll_file hN (T := T) (M := M) (by exact H4.out) 40 (b := b5) (o := (Opn.mk none 2 0 1 1).to (0 + (D.size : Int))) (by exact H6.out) (by simp [FdZ.setOp]) rfl (show flg 1 1 = true by decide) eC eD (by decide) (by constructor <;> simp only [Opn.to] <;> omega)
      have hem := isEmpty_eq ⟨#[]⟩
      rw [decide_eq_true rfl] at hem
      clear q1 q2 q3 q4 q5 q6 q7 hX5 hk5 hk4 HO hb5 hlow eA eB eC eD HND HRd b0
      have hcas : (apart = true ∧ D = V) ∨ (apart = false ∧ D = A) := by
        have := HDD.out
        cases apart with
        | true => exact .inl ⟨rfl, by simpa using this⟩
        | false => exact .inr ⟨rfl, by simpa using this⟩
      clear HJ HDD
      rcases hcas with ⟨rfl, rfl⟩ | ⟨rfl, rfl⟩
      all_goals
        go_wp2_with (go_at_call 18; first | (go_loud (refine HA1.out.mono ?_); rintro e w6 ⟨rfl, hX6, hk6⟩; clear HA1; have HX6 := Lib.hid hX6; clear hX6) | (go_loud (refine (HA2.out _ HX6.out).mono ?_); rintro e w7 ⟨rfl, hX7, hk7⟩; have HX7 := Lib.hid hX7; clear hX7))
        go_ret
        exact ⟨ret_bool (by simp), HX7.out.keeps⟩

end Go.Proofs.YtbmalnllppamdaaGreatDoor
