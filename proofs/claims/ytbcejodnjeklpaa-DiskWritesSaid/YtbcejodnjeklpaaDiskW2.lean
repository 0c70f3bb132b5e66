/-
  Contracts of package disk, the second part: take, Hold, Chmod, below, gives.
-/
import Derived.Test.YtbcejodnjeklpaaDiskW
import Derived.StillTailTactics
namespace Go.Proofs.Ytbcejodnjeklpaa
open Go.RowKit
set_option maxRecDepth 100000
set_option maxHeartbeats 1000000

section
variable {R : RD} {w : World} {a : Nat} {d : Nds} {room us : Int} {lk up : Int → Int}

def takeU (room us n : Int) : Int := if n ≤ room - us then us + n else us

theorem keeps_to (w wr : World) (k : Keeps NoB w wr) (p : Addr) (u : Value) : Keeps (fun x => x = p.block) w (wr.setCell p u) := Keeps.setCell (F := fun x => x = p.block) (p := p) k.of_none (Or.inl rfl) u

theorem take_any (h : Rep R w a d room us lk up) (n : Int) (h0 : 0 ≤ us) (h1 : us ≤ room) (h2 : room ≤ 9223372036854775807) (h3 : -4611686018427387904 ≤ n) (h4 : n ≤ 4611686018427387904) :
    Calls Try.prog 36 #[.pointer (some ⟨a, 0, none⟩), .int .i64 n] w fun e w' => e = .returned (.bool (decide (n ≤ room - us))) ∧ Rep R w' a d room (takeU room us n) lk up ∧ Keeps (fun x => x = a) w w' := by
  have hu := h.used
  have hr := h.room
  have hf := h.fz 2
  have H := Lib.hid h
  have e1 : IntKind.i64.wrap (room - us) = room - us := by rw [IntKind.wrap_i64]; omega
  by_cases c : n ≤ room - us
  · have e2 : IntKind.i64.wrap (us + n) = us + n := by rw [IntKind.wrap_i64]; omega
    have hd : decide (n ≤ room - us) = true := decide_eq_true c
    have ht : takeU room us n = us + n := if_pos c
    rw [hd, ht]
    have hlt : ¬ (room - us < n) := by omega
    clear h hd ht c
    go_enter Try.func36, Try.ntmps36
    go_wp2_with (go_quiet (fail))
    all_goals
      go_ret
      refine ⟨rfl, ?_, ?_⟩
      · exact (H.out.keepN ((Keeps.refl _ _).drewN _)).setUsed _
      · exact keeps_to w _ ((Keeps.refl _ _).drewN _) ⟨a, 2, none⟩ _
  · have hd : decide (n ≤ room - us) = false := decide_eq_false c
    have ht : takeU room us n = us := if_neg c
    rw [hd, ht]
    have hlt : room - us < n := by omega
    clear h hd ht c
    go_enter Try.func36, Try.ntmps36
    go_wp2_with (go_quiet (fail))
    all_goals
      go_ret
      exact ⟨rfl, H.out.keepN ((Keeps.refl _ _).drewN _), ((Keeps.refl _ _).drewN _)⟩

theorem hold_any (h : Rep R w a d room us lk up) (i : Int) (hb : (nd d i).holds ≤ 4611686018427387904) (hb0 : 0 ≤ (nd d i).holds) :
    Calls Try.prog 41 #[.pointer (some ⟨a, 0, none⟩), .int .i64 i] w fun e w' => e = .returned (.int .i64 (if has d i then 0 else 12)) ∧
      Rep R w' a (if has d i then upd d i ((nd d i).setHolds ((nd d i).holds + 1)) else d) room us lk up ∧ Keeps R.F w w' := by
  have hl := h.l
  have hlook := h.look i
  unfold nodeV at hlook
  by_cases hi : has d i
  · rw [if_pos hi] at hlook
    rw [if_pos hi, if_pos hi]
    have hn := h.node i hi
    have hk := hn.holds
    have hf := hn.fz 3
    have e1 : IntKind.i64.wrap ((nd d i).holds + 1) = (nd d i).holds + 1 := by rw [IntKind.wrap_i64]; omega
    have hR := Lib.hid (h.setHolds hi ((nd d i).holds + 1))
    have hF := Lib.hid (h.fN hi)
    generalize (nd d i).holds = x at hk e1 hR
    clear h hn
    go_enter Try.func41, Try.ntmps41
    go_wp2
    go_ret
    exact ⟨rfl, hR.out, (Keeps.refl _ _).setCell (.inl hF.out) _⟩
  · rw [if_neg hi] at hlook
    rw [if_neg hi, if_neg hi]
    have H := Lib.hid h
    go_enter Try.func41, Try.ntmps41
    go_wp2
    go_ret
    exact ⟨rfl, H.out, Keeps.refl _ _⟩

def chmodErr (d : Nds) (i m : Int) : Int := if (nd d i).kind = 0 then 12 else if okMode m then 0 else 10

theorem chmod_any (h : Rep R w a d room us lk up) (i m : Int) :
    Calls Try.prog 42 #[.pointer (some ⟨a, 0, none⟩), .int .i64 i, .int .i64 m] w fun e w' => e = .returned (.int .i64 (chmodErr d i m)) ∧
      Rep R w' a (if chmodErr d i m = 0 then upd d i ((nd d i).setMode m) else d) room us lk up ∧ Keeps R.F w w' := by
  have hl := h.l
  have hlook := h.look i
  unfold nodeV at hlook
  unfold chmodErr
  by_cases hi : has d i
  · rw [if_pos hi] at hlook
    have hi0 : ¬ (nd d i).kind = 0 := hi
    rw [if_neg hi0]
    have hn := h.node i hi
    have hk := hn.mode
    have hf := hn.fz 1
    have hR := Lib.hid (h.setMode hi m)
    have hF := Lib.hid (h.fN hi)
    have H := Lib.hid h
    cases hm : okMode m with
    | true =>
      rw [if_pos rfl, if_pos rfl]
      have hr := right_any m w
      rw [hm] at hr
      clear h hn
      go_enter Try.func42, Try.ntmps42
      go_wp2_with (go_at_call 35; refine hr.mono ?_; rintro e w1 ⟨rfl, rfl⟩)
      go_ret
      exact ⟨rfl, hR.out, (Keeps.refl _ _).setCell (.inl hF.out) _⟩
    | false =>
      rw [if_neg (by decide), if_neg (by decide)]
      have hr := right_any m w
      rw [hm] at hr
      clear h hn
      go_enter Try.func42, Try.ntmps42
      go_wp2_with (go_at_call 35; refine hr.mono ?_; rintro e w1 ⟨rfl, rfl⟩)
      go_ret
      exact ⟨rfl, H.out, Keeps.refl _ _⟩
  · rw [if_neg hi] at hlook
    rw [if_pos (not_has hi), if_neg (by decide)]
    have H := Lib.hid h
    go_enter Try.func42, Try.ntmps42
    go_wp2
    go_ret
    exact ⟨rfl, H.out, Keeps.refl _ _⟩

end

end Go.Proofs.Ytbcejodnjeklpaa
