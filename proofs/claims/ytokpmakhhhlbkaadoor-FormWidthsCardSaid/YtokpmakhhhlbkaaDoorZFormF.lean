/-
  Layer 10: contracts: Format, of a format whose places take all arguments at once.
-/
import Derived.Test.YtokpmakhhhlbkaaDoorZFormO

set_option linter.unusedSimpArgs false
set_option linter.unusedVariables false

set_option maxRecDepth 100000
set_option maxHeartbeats 8000000
namespace Go.Proofs.YtokpmakhhhlbkaaDoor
open Go Go.RowKit

theorem emp_app (O : List UInt8) : (⟨#[]⟩ : ByteArray) ++ ⟨O.toArray⟩ = ⟨O.toArray⟩ := by
  apply ba_eq
  simp

theorem format_fok {f : ByteArray} {args : List ByteArray} {O : List UInt8} {U : Nat} {w : World} {S1 : Nat → Prop} {pa : Option Addr} {ca : Nat} (ha : SlAt encStr S1 w pa ca args) (h : Onc f args 0 0 O U) (hf : f.size ≤ 1000000000) (hO : O.length ≤ 4194304)
    (hU : U = 0 ∨ args.length ≤ U) (hU2 : U ≤ 1000000000) (hdb : DbOk w) :
    Calls Tryd.prog 7 #[.string f, .slice pa args.length ca] w fun e w' => e = .returned (.tuple #[.string ⟨O.toArray⟩, .int .i64 0]) ∧ Keeps NoB w w' := by
  have HOn := Lib.hid (once_fok ha h hf (by omega) hdb)
  have hs : (⟨O.toArray⟩ : ByteArray).size = O.length := by show O.toArray.size = _; simp
  have he := emp_app O
  obtain ⟨x, hx⟩ : ∃ x : ByteArray, ⟨O.toArray⟩ = x := ⟨_, rfl⟩
  rw [hx] at HOn hs he ⊢
  have hcat : (9223372036854775807 < (⟨#[]⟩ : ByteArray).size + x.size) = False := by rw [show (⟨#[]⟩ : ByteArray).size = 0 from rfl]; simp; omega
  have hsz : ¬ (4194304 : Int) < (x.size : Int) := by omega
  clear hx ha h hdb
  go_enter Tryd.func7, Tryd.ntmps7
  go_wp2_with fail
  go_loopw [1, 6] (fun a1 a6 wr => a1 = .slice pa args.length ca ∧ a6 = .string ⟨#[]⟩ ∧ w = wr) (fun _ _ _ => 0)
  case atStart => exact ⟨rfl, rfl, rfl⟩
  case round =>
    obtain ⟨rfl, rfl, rfl⟩ := hrel
    have hu : ((U : Int) == 0) = true ∨ (((U : Int) == 0) = false ∧ (args.length : Int) ≤ (U : Int)) := by
      by_cases h0 : U = 0
      · exact .inl (by subst h0; rfl)
      · refine .inr ⟨by simp; omega, by rcases hU with h | h <;> omega⟩
    clear hU
    rcases hu with hu | ⟨hu, hu2⟩
    all_goals
      go_wp2_with (go_at_call 13; go_loud (refine HOn.out.mono ?_); rintro e w4 ⟨rfl, hk4⟩)
      go_ret2
      exact ⟨rfl, hk4⟩

end Go.Proofs.YtokpmakhhhlbkaaDoor
