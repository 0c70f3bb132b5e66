/-
  Contracts of package disk, the fifth part: Hold, Release, Chmod, Empty on a disk at rest.
-/
import Derived.Test.YtbcejodnjeklpaaDiskP
import Derived.Test.YtbcejodnjeklpaaDiskW4
namespace Go.Proofs.Ytbcejodnjeklpaa
open Go.RowKit
set_option maxRecDepth 100000
set_option maxHeartbeats 1000000

def relErr (d : Nds) (i : Int) : Int := if (nd d i).kind = 0 then 12 else if (nd d i).holds = 0 then 12 else 0
def relTo (d : Nds) (i : Int) : Nds := upd d i ((nd d i).setHolds ((nd d i).holds - 1))
def holdTo (d : Nds) (i : Int) : Nds := upd d i ((nd d i).setHolds ((nd d i).holds + 1))
def chmodTo (d : Nds) (i m : Int) : Nds := upd d i ((nd d i).setMode m)
def emptyTo (d : Nds) (i : Int) : Nds := upd d i ((nd d i).setData ⟨#[]⟩)

section
variable {R : RD} {w : World} {a : Nat} {d : Nds} {room : Int}

theorem holds_le {d : Nds} (h : smallD d) (i : Int) : (nd d i).holds ≤ 4294967296 := by
  by_cases hh : 0 ≤ i ∧ i.toNat < d.length
  · have h1 := sumBy_ge mass1 hh.1 hh.2
    unfold smallD mass at h
    unfold mass1 at h h1
    omega
  · rw [nd_gone hh]; decide

theorem NdOk.setHolds {n : Nd} (h : NdOk n) (h0 : n.kind ≠ 0) {x : Int} (hx : 0 ≤ x) : NdOk (n.setHolds x) :=
  ⟨h.kind0, h.kind3, fun e => absurd e h0, h.mode0, h.mode1, hx, h.data, h.dirs, h.flat, h.rising, h.names⟩
theorem NdOk.setMode {n : Nd} (h : NdOk n) (h0 : n.kind ≠ 0) {x : Int} (hx : okMode x = true) : NdOk (n.setMode x) := by
  simp [okMode] at hx
  exact ⟨h.kind0, h.kind3, fun e => absurd e h0, hx.1, hx.2, h.holds, h.data, h.dirs, h.flat, h.rising, h.names⟩
theorem NdOk.setData {n : Nd} (h : NdOk n) (h0 : n.kind ≠ 0) (h2 : n.kind ≠ 2) {s : ByteArray} (hs : s.size ≤ 4194304) : NdOk (n.setData s) :=
  ⟨h.kind0, h.kind3, fun e => absurd e h0, h.mode0, h.mode1, h.holds, hs, fun e => absurd e h2, h.flat, h.rising, h.names⟩

theorem release_any (h : IsDisk R w a d room) (i : Int) :
    Calls Try.prog 19 #[.pointer (some ⟨a, 0, none⟩), .int .i64 i] w fun e w' => e = .returned (.int .i64 (relErr d i)) ∧ DiskTo R w a (if relErr d i = 0 then gc (relTo d i) else d) room w' := by
  have H := Lib.hid h
  obtain ⟨⟨lk, up, hC⟩, hcl, hfit, hmax⟩ := h
  have hl := hC.rep.l
  have hlook := hC.rep.look i
  unfold nodeV at hlook
  unfold relErr
  by_cases hi : has d i
  · rw [if_pos hi] at hlook
    have hi0 : ¬ (nd d i).kind = 0 := hi
    rw [if_neg hi0]
    have hn := hC.rep.node i hi
    have hk := hn.holds
    have hf := hn.fz 3
    have h0 := (hC.inv.node i).holds
    by_cases hz : (nd d i).holds = 0
    · rw [if_pos hz, if_neg (by decide)]
      rw [hz] at hk
      clear hC hcl hfit hmax hn h0 hz
      go_enter Try.func19, Try.ntmps19
      go_wp2
      go_ret
      exact ⟨rfl, H.out.same (Keeps.refl _ _)⟩
    · rw [if_neg hz, if_pos rfl]
      have hsm := holds_le hC.small i
      have e1 : IntKind.i64.wrap ((nd d i).holds - 1) = (nd d i).holds - 1 := by rw [IntKind.wrap_i64]; omega
      have hR := hC.rep.setHolds hi ((nd d i).holds - 1)
      have hus : used (relTo d i) = used d := by
        have := used_upd (n := (nd d i).setHolds ((nd d i).holds - 1)) hi
        have e : room1 ((nd d i).setHolds ((nd d i).holds - 1)) = room1 (nd d i) := rfl
        unfold relTo
        omega
      have hms : smallD (relTo d i) := by
        have := mass_upd (n := (nd d i).setHolds ((nd d i).holds - 1)) hi
        have e : mass1 ((nd d i).setHolds ((nd d i).holds - 1)) ≤ mass1 (nd d i) := by unfold mass1; show 1 + ((nd d i).holds - 1).toNat + _ ≤ _; simp only [Nd.setHolds]; omega
        have := hC.small
        unfold smallD relTo at *
        omega
      have hC2 := hC.upd hi ((hC.inv.node i).setHolds hi (x := (nd d i).holds - 1) (by omega)) rfl rfl (by rw [show used (upd d i ((nd d i).setHolds ((nd d i).holds - 1))) = used d from hus]; exact hR) hms
      have hi2 : has (relTo d i) i := (has_upd (n := (nd d i).setHolds ((nd d i).holds - 1)) hi hi i).2 hi
      have hpg : ∀ j, PG (relTo d i) zp j → j = i := fun j hj => by
        by_cases e : j = i
        · exact e
        · have hr := has_range hi
          obtain ⟨p1, p2, _, p4⟩ := hj
          unfold relTo at p1 p2 p4
          rw [nd_upd hr.1 hr.2, if_neg e] at p4
          rw [links_same (n := (nd d i).setHolds ((nd d i).holds - 1)) hi rfl] at p2
          exact absurd ⟨(has_upd (n := (nd d i).setHolds ((nd d i).holds - 1)) hi hi j).1 p1, p2, p4⟩ (hcl j)
      have hfree := free_ok _ R _ a (relTo d i) room lk up zp i rfl hC2 hi2 hpg
      have HF := Lib.hid hfree
      have HK := Lib.hid ((Keeps.refl R.F w).setCell (p := ⟨R.g i, 3, none⟩) (.inl (hC.rep.fN hi)) (.int .i64 ((nd d i).holds - 1)))
      have HU := Lib.hid (show (used (relTo d i) : Int) ≤ room by omega)
      have HM := Lib.hid hmax
      clear hfree hpg hi2 hC2 hms hus hR hC hcl hfit hmax hn hsm h0
      generalize (nd d i).holds = x at *
      go_enter Try.func19, Try.ntmps19
      go_wp2_with (go_at_call 48; refine HF.out.mono ?_; rintro e w1 ⟨rfl, R', d', lk', up', h1, h2, h3, h4⟩)
      go_ret
      exact ⟨rfl, R', free_end h1 h2 h3 HU.out HM.out, (Turn.of HK.out).trans h4⟩
  · rw [if_neg hi] at hlook
    rw [if_pos (not_has hi), if_neg (by decide)]
    clear hC hcl hfit hmax
    go_enter Try.func19, Try.ntmps19
    go_wp2
    go_ret
    exact ⟨rfl, H.out.same (Keeps.refl _ _)⟩

theorem noGarb_upd {i : Int} {n : Nd} (hcl : NoGarb d) (hi : has d i) (hk0 : n.kind ≠ 0) (he : n.ents = (nd d i).ents) (hh : n.holds = 0 → (nd d i).holds = 0) : NoGarb (upd d i n) := by
  intro j hj
  have hr := has_range hi
  obtain ⟨p1, p2, p4⟩ := hj
  rw [links_same hi he] at p2
  refine hcl j ⟨(has_upd hi hk0 j).1 p1, p2, ?_⟩
  rw [nd_upd hr.1 hr.2] at p4
  split at p4
  · next e => subst e; exact hh p4
  · exact p4

theorem IsDisk.turn {R' : RD} {w' : World} {lk up : Int → Int} {i : Int} {n : Nd} (hC : Casc R w a d room lk up zp) (hcl : NoGarb d) (hi : has d i) (hok : NdOk n) (hk : n.kind = (nd d i).kind) (he : n.ents = (nd d i).ents)
    (hh : n.holds = 0 → (nd d i).holds = 0) (rep : Rep R' w' a (upd d i n) room (used (upd d i n)) lk up) (hs : smallD (upd d i n)) (hf : (used (upd d i n) : Int) ≤ room) (hm : room ≤ 9223372036854775807) : IsDisk R' w' a (upd d i n) room :=
  ⟨⟨lk, up, hC.upd hi hok hk he rep hs⟩, noGarb_upd hcl hi (by rw [hk]; exact hi) he hh, hf, hm⟩

theorem holdD_any (h : IsDisk R w a d room) (i : Int) (hb : mass d + 1 ≤ 2147483648) :
    Calls Try.prog 41 #[.pointer (some ⟨a, 0, none⟩), .int .i64 i] w fun e w' => e = .returned (.int .i64 (if has d i then 0 else 12)) ∧ DiskTo R w a (if has d i then holdTo d i else d) room w' := by
  obtain ⟨⟨lk, up, hC⟩, hcl, hfit, hmax⟩ := h
  have h0 := (hC.inv.node i).holds
  have hsm := holds_le hC.small i
  refine (hold_any hC.rep i (by omega) h0).mono fun e w' ⟨h1, h2, h3⟩ => ⟨h1, R, ?_, Turn.of h3⟩
  by_cases hi : has d i
  · rw [if_pos hi] at h2 ⊢
    have hus : used (holdTo d i) = used d := by
      have := used_upd (n := (nd d i).setHolds ((nd d i).holds + 1)) hi
      have e : room1 ((nd d i).setHolds ((nd d i).holds + 1)) = room1 (nd d i) := rfl
      unfold holdTo
      omega
    have hms : smallD (holdTo d i) := by
      have := mass_upd (n := (nd d i).setHolds ((nd d i).holds + 1)) hi
      have e : mass1 ((nd d i).setHolds ((nd d i).holds + 1)) ≤ mass1 (nd d i) + 1 := by unfold mass1; simp only [Nd.setHolds]; omega
      unfold smallD holdTo at *
      omega
    refine IsDisk.turn hC hcl hi ((hC.inv.node i).setHolds hi (by omega)) rfl rfl (fun e => ?_) ?_ hms ?_ hmax
    · simp only [Nd.setHolds] at e; omega
    · rw [show used (upd d i ((nd d i).setHolds ((nd d i).holds + 1))) = used d from hus]; exact h2
    · rw [show used (upd d i ((nd d i).setHolds ((nd d i).holds + 1))) = used d from hus]; exact hfit
  · rw [if_neg hi] at h2 ⊢
    exact ⟨⟨lk, up, ⟨h2, hC.inv, hC.cnt, hC.pres, hC.upok, hC.small, hC.lkb⟩⟩, hcl, hfit, hmax⟩

theorem chmodD_any (h : IsDisk R w a d room) (i m : Int) :
    Calls Try.prog 42 #[.pointer (some ⟨a, 0, none⟩), .int .i64 i, .int .i64 m] w fun e w' => e = .returned (.int .i64 (chmodErr d i m)) ∧ DiskTo R w a (if chmodErr d i m = 0 then chmodTo d i m else d) room w' := by
  obtain ⟨⟨lk, up, hC⟩, hcl, hfit, hmax⟩ := h
  refine (chmod_any hC.rep i m).mono fun e w' ⟨h1, h2, h3⟩ => ⟨h1, R, ?_, Turn.of h3⟩
  by_cases hi : chmodErr d i m = 0
  · rw [if_pos hi] at h2 ⊢
    have hh : has d i ∧ okMode m = true := by
      unfold chmodErr at hi
      split at hi
      · cases hi
      · next h0 => split at hi
                   · next h1 => exact ⟨h0, h1⟩
                   · cases hi
    have hus : used (chmodTo d i m) = used d := by
      have := used_upd (n := (nd d i).setMode m) hh.1
      have e : room1 ((nd d i).setMode m) = room1 (nd d i) := rfl
      unfold chmodTo
      omega
    have hms : smallD (chmodTo d i m) := by
      have := mass_upd (n := (nd d i).setMode m) hh.1
      have e : mass1 ((nd d i).setMode m) = mass1 (nd d i) := rfl
      have := hC.small
      unfold smallD chmodTo at *
      omega
    refine IsDisk.turn hC hcl hh.1 ((hC.inv.node i).setMode hh.1 hh.2) rfl rfl (fun e => e) ?_ hms ?_ hmax
    · rw [show used (upd d i ((nd d i).setMode m)) = used d from hus]; exact h2
    · rw [show used (upd d i ((nd d i).setMode m)) = used d from hus]; exact hfit
  · rw [if_neg hi] at h2 ⊢
    exact ⟨⟨lk, up, ⟨h2, hC.inv, hC.cnt, hC.pres, hC.upok, hC.small, hC.lkb⟩⟩, hcl, hfit, hmax⟩

theorem fileErr_zero {d : Nds} {i : Int} (h : fileErr d i = 0) : has d i ∧ (nd d i).kind = 1 := by
  unfold fileErr at h
  split at h
  · cases h
  · next h0 =>
    split at h
    · cases h
    · split at h
      · next h1 => exact ⟨h0, h1⟩
      · cases h

theorem empty_any (h : IsDisk R w a d room) (i : Int) :
    Calls Try.prog 45 #[.pointer (some ⟨a, 0, none⟩), .int .i64 i] w fun e w' => e = .returned (.int .i64 (fileErr d i)) ∧ DiskTo R w a (if fileErr d i = 0 then emptyTo d i else d) room w' := by
  have H := Lib.hid h
  obtain ⟨⟨lk, up, hC⟩, hcl, hfit, hmax⟩ := h
  have hf := file_any hC.rep i
  by_cases he : fileErr d i = 0
  · obtain ⟨hi, hk1⟩ := fileErr_zero he
    rw [he] at hf ⊢
    rw [if_pos rfl]
    have hp : ptrIf R 0 i = .pointer (some ⟨R.g i, 0, none⟩) := rfl
    rw [hp] at hf
    have hn := hC.rep.node i hi
    have hu := hC.rep.used
    have hfu := hC.rep.fz 2
    have hfd := hn.fz 4
    obtain ⟨p, cap, hv⟩ := hn.own.form
    have hd4 := hn.data
    rw [hv] at hd4
    have hroom : room1 (nd d i) ≤ used d := sumBy_ge room1 (has_range hi).1 (has_range hi).2
    have hul := used_le hC.inv
    have hsm := hC.small
    unfold smallD at hsm
    have hents : (nd d i).ents = [] := (hC.inv.node i).flat (by rw [hk1]; decide)
    have hr1 : room1 (nd d i) = (nd d i).data.size := by unfold room1; rw [hents]; rfl
    have e2 : IntKind.i64.wrap ((used d : Int) - ((nd d i).data.size : Int)) = (used d : Int) - ((nd d i).data.size : Int) := by rw [IntKind.wrap_i64]; omega
    have hus : (used (emptyTo d i) : Int) = (used d : Int) - ((nd d i).data.size : Int) := by
      have := used_upd (n := (nd d i).setData ⟨#[]⟩) hi
      have e : room1 ((nd d i).setData ⟨#[]⟩) = 0 := by unfold room1; simp only [Nd.setData, hents]; rfl
      unfold emptyTo
      omega
    have hms : smallD (emptyTo d i) := by
      have := mass_upd (n := (nd d i).setData ⟨#[]⟩) hi
      have e : mass1 ((nd d i).setData ⟨#[]⟩) = mass1 (nd d i) := rfl
      unfold smallD emptyTo at *
      omega
    have hap : ¬ a = R.g i := fun e => by have := hC.rep.tagN i hi; rw [← e, hC.rep.tagA] at this; cases this
    -- the two stores
    have hR1 := hC.rep.setUsed ((used d : Int) - ((nd d i).data.size : Int))
    obtain ⟨R', hR2, hT, _, _, _⟩ := hR1.setData hi (Keeps.refl _ _) (OwnB.nil _ _) (fun x hx => by simp [Value.ownBlock] at hx)
    have hend := Lib.hid (show DiskTo R w a (emptyTo d i) room ((w.setCell ⟨a, 2, none⟩ (.int .i64 ((used d : Int) - ((nd d i).data.size : Int)))).setCell ⟨R.g i, 4, none⟩ (.slice none 0 0)) from
      ⟨R', IsDisk.turn hC hcl hi ((hC.inv.node i).setData hi (by rw [hk1]; decide) (by decide)) rfl rfl (fun e => e) (by rw [show (used (upd d i ((nd d i).setData ⟨#[]⟩)) : Int) = _ from hus]; exact hR2) hms (by rw [show (used (upd d i ((nd d i).setData ⟨#[]⟩)) : Int) = _ from hus]; omega) hmax,
        (Turn.of ((Keeps.refl R.F w).setCell (p := ⟨a, 2, none⟩) (.inl hC.rep.fA) _)).trans hT⟩)
    clear hR1 hR2 hT hms hus hr1 hents hsm hul hroom hv hn hC hcl hfit hmax H hk1
    generalize (nd d i).data.size = ds at *
    generalize used d = u at *
    go_enter Try.func45, Try.ntmps45
    go_wp2_with (go_at_call 37; refine hf.mono ?_; rintro e w1 ⟨rfl, rfl⟩)
    go_region
    all_goals go_wp2
    all_goals go_ret
    all_goals exact ⟨rfl, hend.out.drew⟩
  · rw [if_neg he]
    have hp : ptrIf R (fileErr d i) i = .pointer none := if_neg he
    rw [hp] at hf
    clear hC hcl hfit hmax
    generalize fileErr d i = er at hf he
    go_enter Try.func45, Try.ntmps45
    go_wp2_with (go_at_call 37; refine hf.mono ?_; rintro e w1 ⟨rfl, rfl⟩)
    go_ret
    exact ⟨rfl, H.out.same (Keeps.refl _ _)⟩

end

end Go.Proofs.Ytbcejodnjeklpaa
