/-
  Layer 10: the walk of FormEscapes.
-/
import Derived.Test.YtokpmakhhhlbkaaDoorZFormE
import Derived.Test.YtokpmakhhhlbkaaDoorZFormW6

set_option linter.unusedSimpArgs false
set_option linter.unusedVariables false

set_option maxRecDepth 100000
set_option maxHeartbeats 8000000
namespace Go.Proofs.YtokpmakhhhlbkaaDoor
open Go Go.RowKit

theorem escapes_any (s : ByteArray) (w : World) (hdb : DbOk w) : Calls Tryd.prog 5 #[.string s] w fun e w' => e = .returned (.bool true) ∧ Keeps NoB w w' := by
  have HA := Lib.hid (anchor10_any w hdb)
  by_cases hs : 3000 < s.size
  · have hz : (3000 : Int) < (s.size : Int) := by omega
    clear hdb
    go_enter Tryd.func5, Tryd.ntmps5
    go_wp2_with (go_at_call 6; go_loud (refine HA.out.mono ?_); rintro e w4 ⟨rfl, hk4⟩)
    go_ret
    exact ⟨rfl, hk4⟩
  have hz : ¬ (3000 : Int) < (s.size : Int) := by omega
  have hl : s.data.toList.length = s.size := len_data s
  have hle := escL_le s.data.toList
  obtain ⟨f, hf⟩ : ∃ f : ByteArray, ⟨(escL s.data.toList).toArray⟩ = f := ⟨_, rfl⟩
  have hfs : f.size = (escL s.data.toList).length := by rw [← hf]; show (escL s.data.toList).toArray.size = _; simp
  have HE := Lib.hid (fun wx => fEscape_any s wx (by omega))
  have HR := Lib.hid (fun wx => r10Escape_any s wx (by omega))
  have HD := Lib.hid (fun wx => fEscaped_any s wx (by omega))
  have HU := Lib.hid (fun wx => unescape_any s wx (by omega))
  have HV := Lib.hid (fun wx => r10Unescape_any s wx (by omega))
  have hso : (⟨s.data.toList.toArray⟩ : ByteArray) = s := by simp
  have HF := Lib.hid (fun (wx : World) (hx : DbOk wx) => format_fok (w := wx) (pa := none) (ca := 0) (args := []) (S1 := fun _ => True) ⟨by simp, by simp, fun _ => rfl, (fun h => by omega), (fun h => by simp at h)⟩ (onc_escL s []) (by rw [hf, hfs]; omega) (by omega) (.inl rfl) (by decide) hx)
  rw [hf] at HE HR HF
  rw [hso] at HF
  rw [← hfs] at HD
  simp only [List.length_nil] at HF
  generalize (⟨(unescL s.data.toList).toArray⟩ : ByteArray) = q at *
  have HDB := Lib.hid hdb
  clear hdb hf hfs hle hl hso
  go_enter Tryd.func5, Tryd.ntmps5
  go_wp2_with (first
    | (go_at_call 6; go_loud (refine HA.out.mono ?_); rintro e w1 ⟨rfl, hk1⟩; have HK1 := Lib.hid hk1; clear hk1)
    | (go_at_call 9; go_loud (refine (HE.out _).mono ?_); rintro e w2 ⟨rfl, hk2⟩; have HK2 := Lib.hid (HK1.out.trans hk2); clear hk2)
    | (go_at_call 7; go_loud (refine (HF.out _ (HDB.out.on HK2.out)).mono ?_); rintro e w3 ⟨rfl, hk3⟩; have HK3 := Lib.hid (HK2.out.trans hk3); clear hk3)
    | (go_at_call 8; go_loud (refine (HR.out _).mono ?_); rintro e w4 ⟨rfl, hk4⟩; have HK4 := Lib.hid (HK3.out.trans hk4); clear hk4)
    | (go_at_call 10; go_loud (refine (HD.out _).mono ?_); rintro e w5 ⟨rfl, hk5⟩; have HK5 := Lib.hid (HK4.out.trans hk5); clear hk5)
    | (go_at_call 11; go_loud (refine (HU.out _).mono ?_); rintro e w6 ⟨rfl, hk6⟩; have HK6 := Lib.hid (HK5.out.trans hk6); clear hk6)
    | (go_at_call 12; go_loud (refine (HV.out _).mono ?_); rintro e w7 ⟨rfl, hk7⟩; have HK7 := Lib.hid (HK6.out.trans hk7); clear hk7))
  go_ret
  exact ⟨rfl, HK7.out⟩

end Go.Proofs.YtokpmakhhhlbkaaDoor
