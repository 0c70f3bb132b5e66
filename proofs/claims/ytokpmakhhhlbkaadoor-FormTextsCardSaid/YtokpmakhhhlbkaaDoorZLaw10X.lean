/-
  Layer 10: the walk of FormTexts.
-/
import Derived.Test.YtokpmakhhhlbkaaDoorZLaw10T
import Derived.Test.YtokpmakhhhlbkaaDoorZFormW4

set_option linter.unusedSimpArgs false
set_option linter.unusedVariables false

set_option maxRecDepth 100000
set_option maxHeartbeats 8000000
namespace Go.Proofs.YtokpmakhhhlbkaaDoor
open Go Go.RowKit

theorem txO_snoc (b : List UInt8) (l : List ByteArray) (s : ByteArray) : txO b (l ++ [s]) = txO b l ++ (s.data.toList ++ b) := by unfold txO; simp
theorem txO_len (b : List UInt8) (hb : b.length ≤ 20) : ∀ l : List ByteArray, (∀ s ∈ l, s.size ≤ 100) → (txO b l).length ≤ l.length * 120
  | [], _ => by simp [txO]
  | s :: l, h => by
    have := txO_len b hb l (fun x hx => h x (List.mem_cons_of_mem _ hx))
    have h0 := h s (List.mem_cons_self)
    unfold txO at this ⊢
    rw [List.flatMap_cons, List.length_append, List.length_append, len_data, List.length_cons]
    omega
theorem take_nextA {α : Type} {l : List α} {k : Nat} {c : α} (h : l[k]? = some c) : l.take (k + 1) = l.take k ++ [c] := by
  obtain ⟨h1, h2⟩ := List.getElem?_eq_some_iff.1 h
  rw [List.take_succ_eq_append_getElem h1, h2]

structure TxR (w : World) (l : List ByteArray) (bl : List UInt8) (k : Nat) (f g : ByteArray) (wr : World) : Prop where
  le : k ≤ l.length
  f : f.data.toList = txF bl k
  g : g.data.toList = txO bl (l.take k)
  small : ∀ s ∈ l.take k, s.size ≤ 100
  keeps : Keeps NoB w wr

theorem texts_any {l : List ByteArray} {w : World} {S1 : Nat → Prop} {pa : Option Addr} {ca : Nat} (ha : SlAt encStr S1 w pa ca l) (b : ByteArray) (hdb : DbOk w) :
    Calls Tryd.prog 4 #[.slice pa l.length ca, .string b] w fun e w' => e = .returned (.bool true) ∧ Keeps NoB w w' := by
  have HA := Lib.hid (anchor10_any w hdb)
  have hcap := ha.cap
  have hmax := ha.max
  unfold maxLen at hmax
  have HSl := Lib.hid ha
  clear ha
  by_cases h1 : 20 < l.length
  · have hz : (20 : Int) < (l.length : Int) := by omega
    clear hdb
    go_enter Tryd.func4, Tryd.ntmps4
    go_wp2_with (go_at_call 6; go_loud (refine HA.out.mono ?_); rintro e w4 ⟨rfl, hk4⟩)
    go_ret
    exact ⟨rfl, hk4⟩
  have hz : ¬ (20 : Int) < (l.length : Int) := by omega
  by_cases h2 : 20 < b.size
  · have hz2 : (20 : Int) < (b.size : Int) := by omega
    clear hdb
    go_enter Tryd.func4, Tryd.ntmps4
    go_wp2_with (go_at_call 6; go_loud (refine HA.out.mono ?_); rintro e w4 ⟨rfl, hk4⟩)
    go_ret
    exact ⟨rfl, hk4⟩
  have hz2 : ¬ (20 : Int) < (b.size : Int) := by omega
  obtain ⟨bl, hbl⟩ : ∃ bl, b.data.toList = bl := ⟨_, rfl⟩
  have hbn : bl.length = b.size := by rw [← hbl, len_data]
  have hel := escL_le bl
  obtain ⟨q, hq⟩ : ∃ q : ByteArray, ⟨(escL bl).toArray⟩ = q := ⟨_, rfl⟩
  have hqd : q.data.toList = escL bl := by rw [← hq]
  have hqs : q.size = (escL bl).length := by rw [← hqd, len_data]
  have HR := Lib.hid (fun wx => r10Escape_any b wx (by omega))
  rw [hbl, hq] at HR
  have HDB := Lib.hid hdb
  have hq2 : q.size ≤ 80 := by omega
  have HFin := Lib.hid (fun (f g : ByteArray) (wr : World) (T : TxR w l bl l.length f g wr) => (show Calls Tryd.prog 7 #[.string f, .slice pa l.length ca] wr fun e w' => e = .returned (.tuple #[.string g, .int .i64 0]) ∧ Keeps NoB wr w' from by
    have hsm := T.small
    rw [List.take_length] at hsm
    have hlen := txO_len bl (by omega) l hsm
    have hfl := txF_len bl l.length
    have hfs : f.size ≤ 100000 := by
      rw [← len_data, T.f, hfl]
      have : l.length * ((escL bl).length + 2) ≤ 20 * 82 := Nat.mul_le_mul (by omega) (by omega)
      omega
    have ho := onc_txts (f := f) (args := l) (b := bl) (fun s hs => by have := hsm s hs; omega) (by omega) l.length 0 0 (by omega) (Nat.zero_le _) (by rw [List.drop_zero]; exact T.f)
    rw [List.drop_zero, Nat.zero_add] at ho
    have h := format_fok (HSl.out.keepN T.keeps) ho (by omega) (by omega) (.inr (Nat.le_refl _)) (by omega) (HDB.out.on T.keeps)
    have hg : (⟨(txO bl l).toArray⟩ : ByteArray) = g := by apply ba_eq; rw [T.g, List.take_length]
    rw [hg] at h
    exact h))
  have HT0 : Hid (∀ wr, Keeps NoB w wr → TxR w l bl 0 ⟨#[]⟩ ⟨#[]⟩ wr) := Lib.hid (fun wr hk => ⟨Nat.zero_le _, rfl, rfl, fun s hs => by simp at hs, hk⟩)
  have HStep := Lib.hid (fun (k : Nat) (f g s : ByteArray) (wr w2 : World) (T : TxR w l bl k f g wr) (hs : l[k]? = some s) (hsz : s.size ≤ 100) (hk : Keeps NoB wr w2) =>
    (show TxR w l bl (k + 1) (f ++ (⟨#[37, 115]⟩ ++ q)) (g ++ (s ++ b)) w2 from by
      refine ⟨(List.getElem?_eq_some_iff.1 hs).1, ?_, ?_, ?_, T.keeps.trans hk⟩
      · rw [txF_succ, ← T.f, ← hqd]; simp
      · rw [take_nextA hs, txO_snoc, ← T.g, ← hbl]; simp
      · intro x hx
        rw [take_nextA hs] at hx
        rcases List.mem_append.1 hx with h | h
        · exact T.small x h
        · rw [List.mem_singleton.1 h]; exact hsz))
  have HBd := Lib.hid (fun (k : Nat) (f g : ByteArray) (wr : World) (T : TxR w l bl k f g wr) => (show f.size ≤ 2000 ∧ g.size ≤ 3000 from by
    have hle := T.le
    have hlen := txO_len bl (by omega) (l.take k) T.small
    rw [List.length_take] at hlen
    have hfl := txF_len bl k
    have : k * ((escL bl).length + 2) ≤ 20 * 82 := Nat.mul_le_mul (by omega) (by omega)
    rw [← len_data f, ← len_data g, T.f, T.g]
    omega))
  clear hdb hbl hbn hel hq hqd hqs h1 h2
  go_enter Tryd.func4, Tryd.ntmps4
  go_upto_region 7 with (go_at_call 6; go_loud (refine HA.out.mono ?_); rintro e w1 ⟨rfl, hk1⟩; have HK1 := Lib.hid hk1; clear hk1)
  go_loopw [5, 6, 23] (fun vf vg i wr => ∃ (k : Nat) (f g : ByteArray), i = .int .i64 k ∧ vf = .string f ∧ vg = .string g ∧ TxR w l bl k f g wr) (fun _ _ i _ => l.length + 1 - (intOf i).toNat)
  case atStart => exact ⟨0, ⟨#[]⟩, ⟨#[]⟩, rfl, rfl, rfl, HT0.out _ HK1.out⟩
  case round =>
    obtain ⟨k, f, g, rfl, rfl, rfl, hT⟩ := hrel
    obtain ⟨hb1, hb2⟩ := HBd.out k f g wr hT
    have hkl := hT.le
    have HT := Lib.hid hT
    have HKr := Lib.hid hT.keeps
    clear hT HT0 HBd
    by_cases hlt : k < l.length
    · have hz3 : (k : Int) < (l.length : Int) := by omega
      obtain ⟨s, hs⟩ : ∃ s, l[k]? = some s := ⟨_, List.getElem?_eq_getElem hlt⟩
      obtain ⟨ga, oa, epa, _, _, t0⟩ := (HSl.out.keepN HKr.out).str hs
      subst epa
      by_cases hsz : 100 < s.size
      · have hz4 : (100 : Int) < (s.size : Int) := by omega
        go_wp2_with fail
        go_ret
        exact ⟨rfl, HKr.out⟩
      · have hz4 : ¬ (100 : Int) < (s.size : Int) := by omega
        have HS := Lib.hid (fun w2 (hk : Keeps NoB wr w2) => HStep.out k f g s wr w2 HT.out hs (by omega) hk)
        clear HStep hs
        go_wp2_with (go_at_call 8; go_loud (refine (HR.out _).mono ?_); rintro e w4 ⟨rfl, hk4⟩)
        go_roundw
        case rel => exact ⟨k + 1, _, _, by go_num, rfl, rfl, HS.out _ hk4⟩
        case measure => simp [intOf]; omega
    · have hz3 : ¬ (k : Int) < (l.length : Int) := by omega
      obtain rfl : k = l.length := by omega
      have HF := Lib.hid (HFin.out f g wr HT.out)
      clear HFin HStep HT
      go_wp2_with (go_at_call 7; go_loud (refine HF.out.mono ?_); rintro e w4 ⟨rfl, hk4⟩)
      go_ret
      exact ⟨rfl, HKr.out.trans hk4⟩

end Go.Proofs.YtokpmakhhhlbkaaDoor
