/-
  The reference for layer 6: the walks of fresh, made, over what they call.
-/
import Derived.Test.YtijbhmledmnifaaGreatDoorG09
import Derived.Test.YtijbhmledmnifaaGreatDoorG03
import Derived.Deep.RegionWith
import Derived.BigQuiet
import Derived.StillTailTactics

set_option linter.unusedSimpArgs false
set_option linter.unusedVariables false

set_option maxRecDepth 100000
set_option maxHeartbeats 8000000
namespace Go.Proofs.YtijbhmledmnifaaGreatDoor
open Go Go.RowKit
def frE (X : Plc × Int) (slash es : Bool) (me : Int) : Int := if X.2 ≠ 0 then X.2 else if X.1.node ≠ 0 then 13 else if slash = false ∧ es = true then 12 else me
theorem r6fresh_walk {w : World} {p : Option Addr} {c n : Nat} {room calls fail at' mask : Int} {s : ByteArray} {slash : Bool} {X : Plc × Int} {me : Int} (hs : s.size ≤ 9223372036854775807)
    (HFi : ∀ wx, Keeps NoB w wx → Calls Tryz.prog 122 #[.agg #[.slice p n c, .int .i64 room], .int .i64 at', .string s, .bool false] wx fun e w' => e = .returned (.tuple #[.agg #[.int .i64 X.1.node, .int .i64 X.1.dir, .string X.1.name], .int .i64 X.2]) ∧ Keeps NoB wx w')
    (HMa : ∀ wx, Keeps NoB w wx → Calls Tryz.prog 130 #[fV p c n room calls fail, .int .i64 X.1.dir, .int .i64 7] wx fun e w' => e = .returned (.int .i64 me) ∧ Keeps NoB wx w') :
    Calls Tryz.prog 106 #[fV p c n room calls fail, .agg #[.int .i64 at', .int .i64 mask], .string s, .bool slash] w fun e w' =>
      e = .returned (.tuple #[.agg #[.int .i64 X.1.node, .int .i64 X.1.dir, .string X.1.name], .int .i64 (frE X slash (endS s) me)]) ∧ Keeps NoB w w' := by
  obtain ⟨⟨pn, pd, pm⟩, xe⟩ := X
  simp only at HFi HMa ⊢
  replace HFi := Lib.hid HFi
  replace HMa := Lib.hid HMa
  have HSl := Lib.hid (r6slash_any s hs)
  obtain ⟨E, hE⟩ : ∃ E, frE (⟨pn, pd, pm⟩, xe) slash (endS s) me = E := ⟨_, rfl⟩
  rw [hE]
  unfold frE at hE
  simp only at hE
  unfold fV at *
  go_enter Tryz.func106, Tryz.ntmps106
  go_upto_region 1 with fail
  have HF := Lib.hid (F6.new w (.slice p n c) room calls fail #[.int .i64 at', .int .i64 mask] #[.int .i64 0, .int .i64 0, .string ⟨#[]⟩] 37 46 129)
  generalize ((w.alloc (.cells #[.slice p n c, .int .i64 room, .int .i64 calls, .int .i64 fail] 37)).alloc (.cells #[.int .i64 at', .int .i64 mask] 46)).alloc (.cells #[.int .i64 0, .int .i64 0, .string ⟨#[]⟩] 129) = w0 at *
  have f0 := HF.out.b0.cell 0 _ rfl; have f1 := HF.out.b0.cell 1 _ rfl; have f2 := HF.out.b0.cell 2 _ rfl; have f3 := HF.out.b0.cell 3 _ rfl; have u0 := HF.out.b1.cell 0 _ rfl; have u1 := HF.out.b1.cell 1 _ rfl; have rz0 := HF.out.b2.cell 0 _ rfl; have rz1 := HF.out.b2.cell 1 _ rfl; have rz2 := HF.out.b2.cell 2 _ rfl; have fl0 := HF.out.b0.lt; have fl2 := HF.out.b2.lt; have ff0 := HF.out.b0.fz; have ff2 := HF.out.b2.fz
  go_upto_region 2 with (go_at_call 122; go_loud (refine (HFi.out _ HF.out.k).mono ?_); rintro e w1 ⟨rfl, hkn⟩; (clear f0 f1 f2 f3 u0 u1 rz0 rz1 rz2 fl0 fl2 ff0 ff2; replace HF := Lib.hid (HF.out.on hkn); have f0 := HF.out.b0.cell 0 _ rfl; have f1 := HF.out.b0.cell 1 _ rfl; have f2 := HF.out.b0.cell 2 _ rfl; have f3 := HF.out.b0.cell 3 _ rfl; have u0 := HF.out.b1.cell 0 _ rfl; have u1 := HF.out.b1.cell 1 _ rfl; have rz0 := HF.out.b2.cell 0 _ rfl; have rz1 := HF.out.b2.cell 1 _ rfl; have rz2 := HF.out.b2.cell 2 _ rfl; have fl0 := HF.out.b0.lt; have fl2 := HF.out.b2.lt; have ff0 := HF.out.b0.fz; have ff2 := HF.out.b2.fz))
  have HP := Lib.hid (Bk.new (Keeps.refl NoB (w1.alloc (.cells #[.int .i64 pn, .int .i64 pd, .string pm] 129))))
  replace HF := Lib.hid (HF.out.on ((Keeps.refl NoB w1).alloc (.cells #[.int .i64 pn, .int .i64 pd, .string pm] 129)))
  have hpb : w.heap.size + 3 ≤ w1.heap.size := by omega
  clear hkn
  clear f0 f1 f2 f3 u0 u1 rz0 rz1 rz2 fl0 fl2 ff0 ff2
  generalize w1.alloc (.cells #[.int .i64 pn, .int .i64 pd, .string pm] 129) = w2 at *
  generalize w1.heap.size = PB at *
  have f0 := HF.out.b0.cell 0 _ rfl; have f1 := HF.out.b0.cell 1 _ rfl; have f2 := HF.out.b0.cell 2 _ rfl; have f3 := HF.out.b0.cell 3 _ rfl; have u0 := HF.out.b1.cell 0 _ rfl; have u1 := HF.out.b1.cell 1 _ rfl; have rz0 := HF.out.b2.cell 0 _ rfl; have rz1 := HF.out.b2.cell 1 _ rfl; have rz2 := HF.out.b2.cell 2 _ rfl; have fl0 := HF.out.b0.lt; have fl2 := HF.out.b2.lt; have ff0 := HF.out.b0.fz; have ff2 := HF.out.b2.fz
  have p0 := HP.out.cell 0 _ rfl
  have p1 := HP.out.cell 1 _ rfl
  have p2 := HP.out.cell 2 _ rfl
  by_cases hx : xe = 0
  case neg =>
    have hb : (xe != 0) = true := by simpa using hx
    rw [if_pos hx] at hE
    subst hE
    clear hx
    go_wp2_with fail
    refine bodyPost_ret (v := .tuple #[.agg #[.int .i64 pn, .int .i64 pd, .string pm], .int .i64 xe]) ?_ rfl ⟨rfl, HF.out.fin3 _ _ _⟩
    rw [rcell_tmp rfl]
    go_simp
  subst hx
  rw [if_neg (by simp)] at hE
  by_cases hn : pn = 0
  case neg =>
    have hb : (pn != 0) = true := by simpa using hn
    rw [if_pos hn] at hE
    subst hE
    clear hn
    go_wp2_with fail
    refine bodyPost_ret (v := .tuple #[.agg #[.int .i64 pn, .int .i64 pd, .string pm], .int .i64 13]) ?_ rfl ⟨rfl, HF.out.fin3 _ _ _⟩
    rw [rcell_tmp rfl]
    go_simp
  subst hn
  rw [if_neg (by simp)] at hE
  obtain ⟨es, hes⟩ : ∃ es, endS s = es := ⟨_, rfl⟩
  rw [hes] at hE HSl
  by_cases hse : slash = false ∧ es = true
  · rw [if_pos hse] at hE
    obtain ⟨rfl, rfl⟩ := hse
    subst hE
    go_wp2_with (go_at_call 135; go_loud (refine (HSl.out _).mono ?_); rintro e w3 ⟨rfl, rfl⟩)
    refine bodyPost_ret (v := .tuple #[.agg #[.int .i64 0, .int .i64 pd, .string pm], .int .i64 12]) ?_ rfl ⟨rfl, HF.out.fin3 _ _ _⟩
    rw [rcell_tmp rfl]
    go_simp
  rw [if_neg hse] at hE
  subst hE
  have hcs : slash = true ∨ (slash = false ∧ es = false) := by cases slash <;> cases es <;> simp_all
  clear hse hes
  rcases hcs with rfl | ⟨rfl, rfl⟩
  all_goals
    go_upto_region 8 with (go_at_call 135; go_loud (refine (HSl.out _).mono ?_); rintro e w3 ⟨rfl, hw3⟩; obtain rfl : w2 = w3 := hw3.symm)
    have q0 : w2.drew.cell? ⟨PB, 0, none⟩ = _ := p0
    have q1 : w2.drew.cell? ⟨PB, 1, none⟩ = _ := p1
    have q2 : w2.drew.cell? ⟨PB, 2, none⟩ = _ := p2
    have g0 : w2.drew.cell? ⟨w.heap.size, 0, none⟩ = _ := f0
    have g1 : w2.drew.cell? ⟨w.heap.size, 1, none⟩ = _ := f1
    have g2 : w2.drew.cell? ⟨w.heap.size, 2, none⟩ = _ := f2
    have g3 : w2.drew.cell? ⟨w.heap.size, 3, none⟩ = _ := f3
    clear f0 f1 f2 f3 u0 u1 rz0 rz1 rz2 fl0 fl2 ff0 ff2
    clear p0 p1 p2 HFi HSl
    go_region_with (go_at_call 130; go_loud (refine (HMa.out _ (HF.out.k.trans (by (first | exact Keeps.refl _ _ | exact (Keeps.refl _ _).drew | exact ((Keeps.refl _ _).drew).drew | exact (((Keeps.refl _ _).drew).drew).drew)))).mono ?_); rintro e w4 ⟨rfl, hk4⟩; have HF4 := Lib.hid (HF.out.on (Keeps.trans (by (first | exact Keeps.refl _ _ | exact (Keeps.refl _ _).drew | exact ((Keeps.refl _ _).drew).drew | exact (((Keeps.refl _ _).drew).drew).drew)) hk4)); have HP4 := Lib.hid (HP.out.on (Keeps.trans (by (first | exact Keeps.refl _ _ | exact (Keeps.refl _ _).drew | exact ((Keeps.refl _ _).drew).drew | exact (((Keeps.refl _ _).drew).drew).drew)) hk4)); have y0 := HP4.out.cell 0 _ rfl; have y1 := HP4.out.cell 1 _ rfl; have y2 := HP4.out.cell 2 _ rfl; have rz0 := HF4.out.b2.cell 0 _ rfl; have rz1 := HF4.out.b2.cell 1 _ rfl; have rz2 := HF4.out.b2.cell 2 _ rfl; have fl2 := HF4.out.b2.lt; have ff2 := HF4.out.b2.fz)
    all_goals
      go_wp2_with fail
      refine bodyPost_ret (v := .tuple #[.agg #[.int .i64 0, .int .i64 pd, .string pm], .int .i64 me]) ?_ rfl ⟨rfl, by first | exact HF4.out.fin3 _ _ _ | exact (HF4.out.on (Keeps.refl _ _).drew).fin3 _ _ _⟩
      rw [rcell_tmp rfl]
      go_simp
end Go.Proofs.YtijbhmledmnifaaGreatDoor
