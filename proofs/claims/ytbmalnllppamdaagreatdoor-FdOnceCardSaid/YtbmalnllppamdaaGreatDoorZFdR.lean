/-
  Layer 7: contracts of tables: Read and All, of files.
-/
import Derived.Test.YtbmalnllppamdaaGreatDoorC10

set_option linter.unusedSimpArgs false
set_option linter.unusedVariables false

set_option maxRecDepth 100000
set_option maxHeartbeats 4000000
namespace Go.Proofs.YtbmalnllppamdaaGreatDoor
open Go Go.RowKit

section
variable {N : Nat → Prop} {Z : FdZ} {w w' : World} {F a : Nat} {d d' : Nds} {room calls calls' fail : Int}

theorem fdRead_file (h : FdS N Z w F a d room calls fail) {T M : Nat} (hT : Z.tm T = some M) (n : Int) {b : Nat} {o : Opn} (hk : kvG (Z.kv T) n = some b) (hb : Z.op b = some o) (hp : o.pipe = none) (hf : flg o.flags 1 = true)
    (most : Int) {s : ByteArray} {er : Int} (hs : readOf d o.id o.at' (max most 0) = s) (he : readErr d o.id o.at' (max most 0) = er) (hsz : s.size ≤ 4294967296) (hat : 0 ≤ o.at' ∧ o.at' ≤ 4611686018427387904) :
    Calls Tryz.prog 60 #[.pointer (some ⟨T, 0, none⟩), .int .i64 n, .int .i64 most] w (FdTo N (Z.setOp b (o.to (o.at' + s.size))) w F a d room calls fail (.returned (.tuple #[.string s, .int .i64 er]))) := by
  obtain ⟨hx, _, _⟩ := h.tab T M hT
  have t1 := hx.bx.cell 1 _ rfl
  have t0 := hx.bx.cell 0 _ rfl
  have hlk := hx.map.lookup (P := Tryz.prog) Tryz.underlying125 Tryz.underlying3 (z := .pointer none) (by kernel_rfl) n
  rw [kvGet_kvV, hk] at hlk
  simp only [Option.map_some, Option.getD_some] at hlk
  obtain ⟨hbx, _⟩ := h.opn b o hb
  have c0 := hbx.cell 0 _ rfl
  have c1 := hbx.cell 1 _ rfl
  have c2 := hbx.cell 2 _ rfl
  have c3 := hbx.cell 3 _ rfl
  have cz := hbx.fz
  have cl := hbx.lt
  rw [hp] at c0
  simp only [pipV] at c0
  have g1 := flg_zero o.flags 1
  rw [hf] at g1
  have hwr : IntKind.i64.wrap (o.at' + (s.size : Int)) = o.at' + (s.size : Int) := by rw [IntKind.wrap_i64]; omega
  have HR := Lib.hid (fread_any ((h.on (Keeps.refl NoB w).drew).fs) o.id o.at' (max most 0))
  rw [hs, he] at HR
  have HF := Lib.hid ((h.on (Keeps.refl NoB w).drew).setOp (o' := o.to (o.at' + s.size)) hb 2 (.int .i64 (o.at' + s.size)) rfl rfl)
  have HK := Lib.hid ((((Keeps.refl NoB w).drew).of_none (F := fun g => ¬ N g)).trans ((keeps_set w.drew ⟨b, 2, none⟩ (.int .i64 (o.at' + s.size))).mono (F := fun g => g = b) (G := fun g => ¬ N g) (fun g _ hg hN => by
    subst hg
    have h1 := h.out g hN
    rw [(h.opn g o hb).2] at h1
    cases h1)))
  clear h hx hbx hk hp hf hat hb hs he hsz
  go_enter Tryz.func60, Tryz.ntmps60
  go_upto_region 6 with fail
  have e2 : w.drew.cell? ⟨b, 2, none⟩ = some (.int .i64 o.at') := c2
  have ez : ∀ j, w.drew.frozen? ⟨b, j, none⟩ = false := cz
  have e1 : w.drew.cell? ⟨b, 1, none⟩ = some (.int .i64 o.id) := c1
  have e0 : w.drew.cell? ⟨T, 0, none⟩ = some (.pointer (some ⟨F, 0, none⟩)) := t0
  have el : b < w.drew.heap.size := cl
  clear c0 c1 c2 c3 t0 t1 hlk cz cl g1
  have HE := Lib.hid (And.intro e0 (And.intro e1 (And.intro e2 (And.intro ez el))))
  go_cut [9, 10] from 9 to 57 (fun x y wx => x = .string s ∧ y = .int .i64 er ∧ wx = w.drew)
  case first =>
    go_region_held3 (fun wz => wz.cell? ⟨T, 0, none⟩ = some (.pointer (some ⟨F, 0, none⟩)) ∧ wz.cell? ⟨b, 1, none⟩ = some (.int .i64 o.id) ∧ wz.cell? ⟨b, 2, none⟩ = some (.int .i64 o.at')) (refine ⟨?_, ?_, ?_⟩ <;> with_reducible assumption)
      (first | (go_at_call 17; refine HR.out.mono ?_; rintro e w2 ⟨rfl, rfl⟩))
    all_goals (go_wp2_with fail; go_meet; exact ⟨rfl, rfl, rfl⟩)
  case rest =>
  obtain ⟨rfl, rfl, rfl⟩ := hcut
  clear e0 e1
  generalize w.drew = w1 at *
  go_wp2_with (go_at_call 17; go_loud (refine HR.out.mono ?_); rintro e w2 ⟨rfl, rfl⟩)
  go_ret2
  exact ⟨rfl, HF.out, HK.out⟩

/-- All that is left of a file. -/
theorem fdAll_file (h : FdS N Z w F a d room calls fail) {T M : Nat} (hT : Z.tm T = some M) (n : Int) {b : Nat} {o : Opn} (hk : kvG (Z.kv T) n = some b) (hb : Z.op b = some o) (hp : o.pipe = none) (hf : flg o.flags 1 = true)
    {s : ByteArray} {er : Int} (hs : readOf d o.id o.at' 4194304 = s) (he : readErr d o.id o.at' 4194304 = er) (hsz : s.size ≤ 4294967296) (hat : 0 ≤ o.at' ∧ o.at' ≤ 4611686018427387904) :
    Calls Tryz.prog 18 #[.pointer (some ⟨T, 0, none⟩), .int .i64 n] w (FdTo N (Z.setOp b (o.to (o.at' + s.size))) w F a d room calls fail (.returned (.tuple #[.string s, .int .i64 er]))) := by
  have HR := Lib.hid (fdRead_file h hT n hk hb hp hf 4194304 hs he hsz hat)
  clear h hT hk hb hp hf hs he hsz hat
  go_enter Tryz.func18, Tryz.ntmps18
  go_wp2_with (go_at_call 60; go_loud (refine HR.out.mono ?_); rintro e w2 ⟨rfl, H2, k2⟩)
  go_ret2
  exact ⟨rfl, H2, k2⟩

end
end Go.Proofs.YtbmalnllppamdaaGreatDoor
