/-
  Layer 6: contracts of files: Begin, Disk, Calls, Close, Read, Write.
-/
import Derived.Test.YtbmalnllppamdaaGreatDoorC03
import Derived.Test.YtbmalnllppamdaaGreatDoorC01

set_option linter.unusedSimpArgs false
set_option linter.unusedVariables false

set_option maxRecDepth 100000
set_option maxHeartbeats 4000000
namespace Go.Proofs.YtbmalnllppamdaaGreatDoor
open Go Go.RowKit

section
variable {N : Nat → Prop} {w w' : World} {F a : Nat} {d d' : Nds} {room calls fail : Int}

theorem begin_any (w : World) (room fail : Int) (h0 : 0 ≤ room) (h1 : room ≤ 9223372036854775807) :
    Calls Tryz.prog 50 #[.int .i64 room, .int .i64 fail] w fun e w' => ∃ F a, e = .returned (.tuple #[.pointer (some ⟨F, 0, none⟩), .int .i64 0]) ∧ FSt (fun g => g < w.heap.size) w' F a newD room 0 fail ∧ Keeps NoB w w' := by
  have HN := Lib.hid (new_any w room h1)
  simp only [if_neg (show ¬ room < 0 by omega)] at HN
  go_enter Tryz.func50, Tryz.ntmps50
  go_wp2_with (go_at_call 107; go_loud (refine HN.out.mono ?_); rintro e w1 ⟨a, rfl, hd⟩)
  go_ret2
  have hk := hd.keeps
  have hs := hk.size
  have ka : Keeps NoB w1 (w1.alloc (.cells #[.pointer (some ⟨a, 0, none⟩), .int .i64 0, .int .i64 fail] 137)) := (Keeps.refl _ _).alloc _
  have kn := Keeps.refl NoB (w1.alloc (.cells #[.pointer (some ⟨a, 0, none⟩), .int .i64 0, .int .i64 fail] 137))
  refine ⟨w1.heap.size, a, rfl, ⟨hd.pd.grow ka (fun _ _ hx => hx.elim) (fun x hx => ?_), by omega, boxed kn 0 _ rfl, boxed kn 1 _ rfl, boxed kn 2 _ rfl, boxedz kn⟩, hk.alloc _⟩
  rcases hx with hx | rfl
  · exact .inl hx
  · exact .inr ⟨Nat.le_refl _, by simp⟩

theorem disk_any (h : FSt N w F a d room calls fail) : Calls Tryz.prog 43 #[.pointer (some ⟨F, 0, none⟩)] w fun e w' => e = .returned (.pointer (some ⟨a, 0, none⟩)) ∧ w = w' := by
  have f0 := h.c0
  clear h
  go_enter Tryz.func43, Tryz.ntmps43
  go_wp2
  go_ret
  exact ⟨rfl, rfl⟩

theorem callsF_any (h : FSt N w F a d room calls fail) : Calls Tryz.prog 28 #[.pointer (some ⟨F, 0, none⟩)] w fun e w' => e = .returned (.int .i64 calls) ∧ w = w' := by
  have f0 := h.c1
  clear h
  go_enter Tryz.func28, Tryz.ntmps28
  go_wp2
  go_ret
  exact ⟨rfl, rfl⟩

theorem close_any (h : FSt N w F a d room calls fail) (i : Int) :
    Calls Tryz.prog 150 #[.pointer (some ⟨F, 0, none⟩), .int .i64 i] w (FTo N w F a (relD d i) room calls fail (.int .i64 (relErr d i))) := by
  have HR := Lib.hid (h.prog2 fun R hR => release_any hR i)
  rw [show (if relErr d i = 0 then gc (relTo d i) else d) = relD d i from rfl] at HR
  have f0 := h.c0
  clear h
  go_enter Tryz.func150, Tryz.ntmps150
  go_wp2_with (go_at_call 174; go_loud (refine HR.out.mono ?_); rintro e w2 ⟨rfl, FS, k⟩)
  go_ret
  exact ⟨rfl, FS, k⟩

theorem FSt.reads (h : FSt N w F a d room calls fail) (i x y : Int) :
    Calls Tryz.prog 59 #[.pointer (some ⟨a, 0, none⟩), .int .i64 i, .int .i64 x, .int .i64 y] w fun e w' => e = .returned (.tuple #[.string (readOf d i x y), .int .i64 (readErr d i x y)]) ∧ w = w' :=
  h.pd.tells fun R lk up hR _ _ => read_any hR i x y (dataOf_size h.pd.inv i)

theorem fread_any (h : FSt N w F a d room calls fail) (i x y : Int) :
    Calls Tryz.prog 17 #[.pointer (some ⟨F, 0, none⟩), .int .i64 i, .int .i64 x, .int .i64 y] w fun e w' => e = .returned (.tuple #[.string (readOf d i x y), .int .i64 (readErr d i x y)]) ∧ w = w' := by
  have HR := Lib.hid (h.reads i x y)
  have f0 := h.c0
  clear h
  go_enter Tryz.func17, Tryz.ntmps17
  go_wp2_with (go_at_call 59; go_loud (refine HR.out.mono ?_); rintro e w2 ⟨rfl, rfl⟩)
  go_ret2
  exact ⟨rfl, rfl⟩

/-- Write, the call that may fail with it. -/
def wrtF (calls fail : Int) (d : Nds) (room id x : Int) (s : ByteArray) : Nds × Int := orFail calls fail d (writeTo d room id x s, writeErr d room id x s)

theorem fwrite_any (h : FSt N w F a d room calls fail) (hc0 : 0 ≤ calls) (hc1 : calls ≤ 4611686018427387904) (i x : Int) (s : ByteArray) (hsz : s.size ≤ 4294967296) :
    Calls Tryz.prog 58 #[.pointer (some ⟨F, 0, none⟩), .int .i64 i, .int .i64 x, .string s] w (FTo N w F a (wrtF calls fail d room i x s).1 room (calls + 1) fail (.int .i64 (wrtF calls fail d room i x s).2)) := by
  have HC := Lib.hid (call_any h hc0 hc1)
  have HW := Lib.hid (fun (w1 : World) (h1 : FSt N w1 F a d room (calls + 1) fail) => h1.prog2 fun R hR => writeD_any hR i x s hsz)
  obtain ⟨O, hO⟩ : ∃ O, wrtF calls fail d room i x s = O := ⟨_, rfl⟩
  rw [hO]
  obtain ⟨ce, hce⟩ : ∃ ce, callE calls fail = ce := ⟨_, rfl⟩
  have HOF := Lib.hid (show O = if ce ≠ 0 then (d, ce) else (writeTo d room i x s, writeErr d room i x s) by rw [← hO]; unfold wrtF orFail; rw [hce])
  rw [hce] at HC
  clear h hO hce hc0 hc1
  by_cases hz : ce ≠ 0
  · have hb : (ce != 0) = true := by simpa using hz
    rw [if_pos hz] at HOF
    clear hz
    go_enter Tryz.func58, Tryz.ntmps58
    go_wp2_with (go_at_call 108; go_loud (refine HC.out.mono ?_); rintro e w2 ⟨rfl, FS, k⟩)
    go_ret
    exact ⟨ret_i64 (by rw [HOF.out]), (by rw [HOF.out]; exact FS), k⟩
  rw [if_neg hz] at HOF
  obtain rfl : ce = 0 := Classical.not_not.1 hz
  clear hz
  go_enter Tryz.func58, Tryz.ntmps58
  go_wp2_with (first | (go_at_call 108; go_loud (refine HC.out.mono ?_); rintro e w2 ⟨rfl, FS, k⟩; have f2 := FS.c0; clear HC) | (go_at_call 112; go_loud (refine (HW.out _ FS).mono ?_); rintro e w3 ⟨rfl, FS3, k3⟩))
  go_ret
  exact ⟨ret_i64 (by rw [HOF.out]), (by rw [HOF.out]; exact FS3), k.trans k3⟩

theorem FSt.used (h : FSt N w F a d room calls fail) : Calls Tryz.prog 44 #[.pointer (some ⟨a, 0, none⟩)] w fun e w' => e = .returned (.int .i64 (used d)) ∧ w = w' :=
  h.pd.tells fun R lk up hR _ _ => used_any hR
end
end Go.Proofs.YtbmalnllppamdaaGreatDoor
