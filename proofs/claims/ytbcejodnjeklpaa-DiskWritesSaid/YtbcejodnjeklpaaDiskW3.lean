/-
  Contracts of package disk, the third part: less and free.
-/
import Derived.Test.YtbcejodnjeklpaaDiskF
import Derived.Test.YtbcejodnjeklpaaDiskW2
namespace Go.Proofs.Ytbcejodnjeklpaa
open Go.RowKit
set_option maxRecDepth 100000
set_option maxHeartbeats 1000000

theorem less_of_free (n : Nat) (hf : FreeOk n) : LessOk n := by
  intro R w a d room lk up pend i hn h hp hng
  have hi := h.pres i hp
  have hl := h.rep.l
  have hlook := h.rep.look i
  unfold nodeV at hlook
  rw [if_pos hi] at hlook
  have hnode := h.rep.node i hi
  have hk := hnode.links
  have hf2 := hnode.fz 2
  have hf6 := hnode.fz 6
  have hc6 := hnode.up
  have hc := h.cnt i hi
  have hb := h.lkb i hi
  have H := Lib.hid h
  have hF := h.rep.fN hi
  by_cases hz : lk i - 1 = 0
  · have hL : lk i = 1 := by omega
    have hR2 := (h.rep.setLinks hi 0).setUp hi 0
    rw [show setAt lk i 0 = setAt lk i (lk i - 1) by rw [hz]] at hR2
    have hC := H.out.dec hp hR2 (by rw [if_pos hz])
    have hk2 : Keeps R.F w ((w.setCell ⟨R.g i, 2, none⟩ (.int .i64 0)).setCell ⟨R.g i, 6, none⟩ (.int .i64 0)) := (((Keeps.refl R.F w).setCell (p := ⟨R.g i, 2, none⟩) (.inl hF) _).setCell (p := ⟨R.g i, 6, none⟩) (.inl hF) _)
    have hfree := hf R _ a d room _ _ _ i hn hC hi (fun j hj => PG.of_dec hng hj)
    have HC := Lib.hid hC
    have HF := Lib.hid hfree
    have HK := Lib.hid hk2
    rw [hL] at hk
    clear hC hfree hk2 hR2 h hnode hn hng hf hc hb hp hz hL
    go_enter Try.func53, Try.ntmps53
    go_wp2_with (go_at_call 48; refine HF.out.mono ?_; rintro e w1 ⟨rfl, R', d', lk', up', h1, h2, h3, h4⟩)
    go_end0
    exact ⟨rfl, R', d', lk', up', h1, h2, h3, (Turn.of HK.out).trans h4⟩
  · have hR2 := h.rep.setLinks hi (lk i - 1)
    have hC := H.out.dec hp hR2 (by rw [if_neg hz])
    have hk2 : Keeps R.F w (w.setCell ⟨R.g i, 2, none⟩ (.int .i64 (lk i - 1))) := ((Keeps.refl R.F w).setCell (p := ⟨R.g i, 2, none⟩) (.inl hF) _)
    have hfree := hf R _ a d room _ _ _ i hn hC hi (fun j hj => PG.of_dec hng hj)
    have e1 : IntKind.i64.wrap (lk i - 1) = lk i - 1 := by rw [IntKind.wrap_i64]; omega
    have HC := Lib.hid hC
    have HF := Lib.hid hfree
    have HK := Lib.hid hk2
    clear hC hfree hk2 hR2 h hnode hn hng hf hc hb hp
    go_enter Try.func53, Try.ntmps53
    go_wp2_with (go_at_call 48; refine HF.out.mono ?_; rintro e w1 ⟨rfl, R', d', lk', up', h1, h2, h3, h4⟩)
    go_end0
    exact ⟨rfl, R', d', lk', up', h1, h2, h3, (Turn.of HK.out).trans h4⟩

end Go.Proofs.Ytbcejodnjeklpaa
