/-
  Layer 10: contracts: pad, put, of texts.
-/
import Derived.Test.YtokpmakhhhlbkaaDoorZFormR

set_option linter.unusedSimpArgs false
set_option linter.unusedVariables false

set_option maxRecDepth 100000
set_option maxHeartbeats 8000000
namespace Go.Proofs.YtokpmakhhhlbkaaDoor
open Go Go.RowKit

theorem extra105 : Builder.Extra Tryd.prog lays105_ren where
  sizeBuilder := by kernel_rfl
  liesBuilder := by kernel_rfl
  t5 := Tryd.underlying5
  a5 := Tryd.isAgg5
  z5 := Tryd.sizeOf5
  v5 := Tryd.zeroValue5
  infoByte := by kernel_rfl
  cellsByte := by kernel_rfl
  sizeByte := by kernel_rfl
  neB5 := by decide

theorem rep_one (b : UInt8) : ∀ n, Lib.repeatL [b] n = List.replicate n b
  | 0 => rfl
  | n + 1 => by rw [Lib.repeatL, rep_one b n, List.replicate_succ]; rfl

theorem repeat_any (b : UInt8) (n : Nat) (hn : n ≤ 1000000000) (w : World) : Calls Tryd.prog 32 #[.string ⟨#[b]⟩, .int .i64 (n : Int)] w fun e w' => e = .returned (.string ⟨(List.replicate n b).toArray⟩) ∧ Keeps NoB w w' := by
  refine (Any.strings_Repeat lays105 extra105 ⟨#[b]⟩ n w (by omega) (by show 1 * n ≤ _; omega)).mono ?_
  rintro e w' ⟨rfl, k⟩
  refine ⟨?_, Keeps.of_below k⟩
  rw [show (⟨#[b]⟩ : ByteArray).data.toList = [b] from rfl, rep_one]

/-- A text as wide as a place wants it. -/
def padL (left : Bool) (width : Int) (l : List UInt8) : List UInt8 :=
  if width ≤ (l.length : Int) then l else if left then l ++ List.replicate (width - l.length).toNat 32 else List.replicate (width - l.length).toNat 32 ++ l

theorem app_list (a b : List UInt8) : (⟨a.toArray⟩ : ByteArray) ++ ⟨b.toArray⟩ = ⟨(a ++ b).toArray⟩ := by
  apply ba_eq
  simp

theorem pad_any (p : Sp) (l : List UInt8) (dg : Bool) (w : World) (hz : (p.zero && dg) = false) (hw : p.width ≤ 1000000) (hw0 : 0 ≤ p.width) (hl : l.length ≤ 1000000000) :
    Calls Tryd.prog 27 #[p.val, .string ⟨l.toArray⟩, .bool dg] w fun e w' => e = .returned (.string ⟨(padL p.left p.width l).toArray⟩) ∧ Keeps NoB w w' := by
  obtain ⟨left, zero, width, prec, kind⟩ := p
  simp only at hz hw hw0 ⊢
  have hsz : (⟨l.toArray⟩ : ByteArray).size = l.length := by show l.toArray.size = _; simp
  obtain ⟨x, hx⟩ : ∃ x : ByteArray, ⟨l.toArray⟩ = x := ⟨_, rfl⟩
  have HX := Lib.hid hx
  rw [hx] at hsz
  unfold Sp.val
  simp only
  by_cases h0 : width ≤ (l.length : Int)
  · have hn : width - (x.size : Int) ≤ 0 := by omega
    have HP := Lib.hid (show padL left width l = l by unfold padL; rw [if_pos h0])
    rw [hx]
    clear hx h0
    go_enter Tryd.func27, Tryd.ntmps27
    go_wp2
    go_ret
    exact ⟨by rw [HP.out, HX.out]; rfl, (Keeps.refl _ _).alloc _⟩
  obtain ⟨n, hn⟩ : ∃ n : Nat, width - (l.length : Int) = n := ⟨(width - l.length).toNat, by omega⟩
  have hcmp : ¬ width ≤ (x.size : Int) := by omega
  have HR := Lib.hid (fun wx : World => repeat_any 32 n (by omega) wx)
  rw [show (n : Int) = width - (x.size : Int) by omega] at HR
  have hrs : (⟨(List.replicate n (32 : UInt8)).toArray⟩ : ByteArray).size = n := by show (List.replicate n (32 : UInt8)).toArray.size = _; simp
  obtain ⟨r, hr⟩ : ∃ r : ByteArray, ⟨(List.replicate n (32 : UInt8)).toArray⟩ = r := ⟨_, rfl⟩
  rw [hr] at HR hrs
  have hc1 : (9223372036854775807 < x.size + r.size) = False := by simp; omega
  have hc2 : (9223372036854775807 < r.size + x.size) = False := by simp; omega
  have HP := Lib.hid (show (⟨(padL left width l).toArray⟩ : ByteArray) = if left then x ++ r else r ++ x by
    unfold padL
    rw [if_neg h0, hn, Int.toNat_natCast, ← hx, ← hr]
    cases left
    · simp only [Bool.false_eq_true, if_false]; rw [app_list]
    · simp only [if_true]; rw [app_list])
  rw [hx]
  have hlo : x.size ≤ 1000000000 := by omega
  clear hx hr h0 hn hrs hsz
  cases left with
  | true =>
    go_enter Tryd.func27, Tryd.ntmps27
    go_wp2_with (go_at_call 32; go_loud (refine (HR.out _).mono ?_); rintro e w4 ⟨rfl, hk4⟩)
    go_ret
    exact ⟨by rw [HP.out]; rfl, ((Keeps.refl _ _).alloc _).trans hk4⟩
  | false =>
    have hz2 : zero = false ∨ (zero = true ∧ dg = false) := by cases zero <;> cases dg <;> simp_all
    clear hz
    rcases hz2 with rfl | ⟨rfl, rfl⟩
    all_goals
      go_enter Tryd.func27, Tryd.ntmps27
      go_wp2_with (go_at_call 32; go_loud (refine (HR.out _).mono ?_); rintro e w4 ⟨rfl, hk4⟩)
      go_ret
      exact ⟨by rw [HP.out]; rfl, ((Keeps.refl _ _).alloc _).trans hk4⟩

theorem put_str (p : Sp) (s : ByteArray) (hk : p.kind = 115) (hp : p.prec = -1) (hw : p.width ≤ 1000000) (hw0 : 0 ≤ p.width) (hl : s.size ≤ 1000000000) : PutsTo p s (padL p.left p.width s.data.toList) := by
  intro w _
  obtain ⟨left, zero, width, prec, kind⟩ := p
  simp only at hk hp hw hw0 ⊢
  subst hk; subst hp
  have HP := Lib.hid (fun wx : World => pad_any ⟨left, zero, width, -1, 115⟩ s.data.toList false wx (by simp) hw hw0 (by rw [len_data]; exact hl))
  rw [show (⟨s.data.toList.toArray⟩ : ByteArray) = s by simp] at HP
  unfold Sp.val at HP ⊢
  simp only at HP ⊢
  generalize padL left width s.data.toList = q at *
  rw [show (((115 : UInt8).toNat : Nat) : Int) = 115 from rfl] at *
  go_enter Tryd.func21, Tryd.ntmps21
  go_wp2_with (go_at_call 27; go_loud (refine (HP.out _).mono ?_); rintro e w4 ⟨rfl, hk4⟩)
  go_ret2
  exact ⟨rfl, ((Keeps.refl _ _).alloc _).trans hk4⟩

end Go.Proofs.YtokpmakhhhlbkaaDoor
