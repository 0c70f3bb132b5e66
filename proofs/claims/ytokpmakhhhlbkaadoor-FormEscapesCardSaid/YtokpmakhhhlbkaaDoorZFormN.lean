/-
  Layer 10: contracts on numbers, as far as the document's example goes.
-/
import Derived.Test.YtokpmakhhhlbkaaDoorZFormL2

set_option linter.unusedSimpArgs false
set_option linter.unusedVariables false

set_option maxRecDepth 100000
set_option maxHeartbeats 8000000
namespace Go.Proofs.YtokpmakhhhlbkaaDoor
open Go Go.RowKit

theorem parse_one (c : UInt8) (v : Int) (w : World) (h : Lib.parseIntB 64 [c] = .ok v) : Calls Tryd.prog 34 #[.string ⟨#[c]⟩, .int .i64 10, .int .i64 64] w fun e w' => e = .returned (.tuple #[.int .i64 v, .nilIface]) ∧ Keeps NoB w w' := by
  refine (Any.strconv_ParseInt_10_at64_ok lays174 ⟨#[c]⟩ (by show 1 ≤ _; decide) v h w).mono ?_
  rintro e w' ⟨rfl, rfl | ⟨t, rfl⟩⟩
  · exact ⟨rfl, Keeps.refl _ _⟩
  · refine ⟨rfl, ⟨?_, ?_, ?_, ?_, fun k hk _ => Lib.bytesWorld_at_old w 5 t k hk⟩⟩
    · simp [Lib.bytesWorld, World.freeze]; rfl
    · simp [Lib.bytesWorld, World.freeze]
    · simp [Lib.bytesWorld, World.freeze]; rfl
    · rw [Lib.bytesWorld_size]; omega

theorem fmt_one (i : Nat) (hi : i < 100) (w : World) : Calls Tryd.prog 35 #[.int .i64 (i : Int), .int .i64 10] w fun e w' => e = .returned (.string ⟨(Lib.decDigits i).toArray⟩) ∧ w = w' := by
  refine (Any.strconv_FormatInt_10_small lays173 i hi w).mono ?_
  rintro e w' ⟨h1, h2⟩
  exact ⟨h1, h2.symm⟩

theorem pow2_8 (w : World) : Calls Tryd.prog 75 #[.int .i64 8] w fun e w' => e = .returned (.bool true) ∧ w = w' := by
  go_enter Tryd.func75, Tryd.ntmps75
  go_wp2
  go_ret
  exact ⟨rfl, rfl⟩

theorem tz64_x (x : Int) (w : World) (hx0 : (x == 0) = false) (key : IntKind.u64.wrap (bits BinOp.and IntKind.u64 x (IntKind.u64.wrap (-x)) * 285870213051353865) / 288230376151711744 = 7) (h : w.cell? ⟨8, 7, none⟩ = some (.int .u8 3)) :
    Calls Tryd.prog 82 #[.int .u64 x] w fun e w' => e = .returned (.int .i64 3) ∧ w = w' := by
  go_enter Tryd.func82, Tryd.ntmps82
  go_wp2_with (simp only [key])
  go_ret
  exact ⟨rfl, rfl⟩

theorem tz64_8 (w : World) (h : DbOk w) : Calls Tryd.prog 82 #[.int .u64 8] w fun e w' => e = .returned (.int .i64 3) ∧ w = w' :=
  tz64_x 8 w (by decide) (by decide +kernel) h

theorem tz_8 (w : World) (h : DbOk w) : Calls Tryd.prog 76 #[.int .u64 8] w fun e w' => e = .returned (.int .i64 3) ∧ w = w' := by
  have H := Lib.hid (tz64_8 w h)
  clear h
  go_enter Tryd.func76, Tryd.ntmps76
  go_wp2_with (go_at_call 82; refine H.out.mono ?_; rintro e w' ⟨rfl, rfl⟩)
  go_ret
  exact ⟨rfl, rfl⟩

end Go.Proofs.YtokpmakhhhlbkaaDoor
