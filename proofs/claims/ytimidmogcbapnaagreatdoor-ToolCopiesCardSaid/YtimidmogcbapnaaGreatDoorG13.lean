/-
  Layer 6: contracts of files: call, may, mode.Fresh, enter, Close, Read.
-/
import Derived.Test.YtimidmogcbapnaaGreatDoorG12
import Derived.BigQuiet
import Derived.Deep.QuietTactic

set_option linter.unusedSimpArgs false
set_option linter.unusedVariables false
set_option maxRecDepth 100000
set_option maxHeartbeats 4000000
namespace Go.Proofs.YtimidmogcbapnaaGreatDoor
open Go Go.RowKit
section
variable {N : Nat -> Prop} {w w' : World} {F a : Nat} {d d' : Nds} {room calls fail : Int}
structure Bx (w : World) (B : Nat) (l : List Value) : Prop where
 lt : B < w.heap.size
 cell : ∀ i v, l[i]? = some v -> w.cell? ⟨B, i, none⟩ = some v
 fz : ∀ j, w.frozen? ⟨B, j, none⟩ = false
theorem Bx.new {cs : Array Value} {T : TypeId} (k : Keeps NoB (w.alloc (.cells cs T)) w') : Bx w' w.heap.size cs.toList :=
 ⟨Nat.lt_of_lt_of_le (by simp) k.size, fun i v hv => boxed k i v (by rw [<- Array.getElem?_toList]; exact hv), boxedz k⟩
theorem Bx.keep {G : Nat -> Prop} {B : Nat} {l : List Value} (h : Bx w B l) (k : Keeps G w w') (hB : ¬ G B) : Bx w' B l :=
 ⟨Nat.lt_of_lt_of_le h.lt k.size, fun i v hv => (k.cell (p := ⟨B, i, none⟩) h.lt hB).trans (h.cell i v hv), fun j => (k.frozen (p := ⟨B, j, none⟩) h.lt hB).trans (h.fz j)⟩
theorem Bx.on {B : Nat} {l : List Value} (h : Bx w B l) (k : Keeps NoB w w') : Bx w' B l := h.keep k (fun h => h)
theorem Bx.newD {cs : Array Value} {T : TypeId} (k : Keeps NoB (w.alloc (.cells cs T)).drew w') : Bx w' w.heap.size cs.toList := Bx.new ((Keeps.refl NoB _).drew.trans k)
theorem Bx.put {B : Nat} {l : List Value} (h : Bx w B l) (i : Nat) (v : Value) : Bx (w.setCell ⟨B, i, none⟩ v) B (l.set i v) := by
 refine ⟨by simpa using h.lt, fun j u hu => ?_, fun j => (frozen_set _ _ _ _).trans (h.fz j)⟩
 rw [List.getElem?_set] at hu
 split at hu
 ·next e =>
  subst e
  split at hu
  ·next hl =>
   cases hu
   have := cell_set (g := B) (k := i) (u := v) (j := i) (h.cell i _ (List.getElem?_eq_getElem hl))
   rw [if_pos rfl] at this
   exact this
  ·cases hu
 ·next e =>
  have := cell_set (g := B) (k := i) (u := v) (j := j) (h.cell j u hu)
  rw [if_neg (fun x => e x.symm)] at this
  exact this
theorem FSt.thr (h : FSt N w F a d room calls fail) (from' : Int) (s : ByteArray) (follow : Bool) (hsz : s.size <= 4294967280) :
 Calls Tryz.prog 26 #[.pointer (some ⟨a, 0, none⟩), .int .i64 from', .string s, .bool follow] w fun e w' =>
  e = .returned (.tuple #[plcV (thrR d from' s follow).1, .int .i64 (thrR d from' s follow).2]) ∧ Keeps NoB w w' := h.there from' s follow hsz
theorem FSt.fnd (h : FSt N w F a d room calls fail) (from' : Int) (s : ByteArray) (follow : Bool) (hsz : s.size <= 4294967280) :
 Calls Tryz.prog 21 #[.pointer (some ⟨a, 0, none⟩), .int .i64 from', .string s, .bool follow] w fun e w' =>
  e = .returned (.tuple #[plcV (fndR d from' s follow).1, .int .i64 (fndR d from' s follow).2]) ∧ Keeps NoB w w' := h.find from' s follow hsz
theorem FSt.wider (h : FSt N w F a d room calls fail) (k : Keeps NoB w w') : ∃ N1 : Nat -> Prop, (∀ g, N g -> N1 g) ∧ (∀ g, w.heap.size <= g -> g < w'.heap.size -> N1 g) ∧ FSt N1 w' F a d room calls fail := by
 have h3 := h.on k
 have hl := h.lt
 refine ⟨fun g => N g ∨ (w.heap.size <= g ∧ g < w'.heap.size), fun g hg => .inl hg, fun g h1 h2 => .inr ⟨h1, h2⟩, h.pd.grow k (fun _ _ hx => hx.elim) (fun x hx => ?_), fun hx => hx.elim h.notN (fun e => by omega), h3.c0, h3.c1, h3.c2, h3.fz⟩
 rcases hx with (hx | hx) | rfl
 ·exact .inl (.inl hx)
 ·exact .inr hx
 ·exact .inl (.inr rfl)
def FTo (N : Nat -> Prop) (w : World) (F a : Nat) (d' : Nds) (room calls' fail : Int) (V : Value) : Ending -> World -> Prop := fun e w' =>
 e = .returned V ∧ FSt N w' F a d' room calls' fail ∧ Keeps (fun g => ¬ N g) w w'
theorem FSt.prog2 {f : Nat} {args : Array Value} {V : Value} (h : FSt N w F a d room calls fail) (hc : ∀ R, IsDisk R w a d room -> Calls Tryz.prog f args w fun e w' => e = .returned V ∧ DiskTo R w a d' room w') :
 Calls Tryz.prog f args w (FTo N w F a d' room calls fail V) :=
 (h.prog hc).mono fun e w' ⟨h1, h2, h3⟩ => ⟨h1, h2, h3.mono fun x _ hx hN => hx (.inl hN)⟩
theorem call_any (h : FSt N w F a d room calls fail) (h0 : 0 <= calls) (h1 : calls <= 4611686018427387904) :
 Calls Tryz.prog 20 #[.pointer (some ⟨F, 0, none⟩)] w (FTo N w F a d room (calls + 1) fail (.int .i64 (callE calls fail))) := by
 have FS := h
 have hw1 : IntKind.i64.wrap (calls + 1) = calls + 1 := by rw [IntKind.wrap_i64]; omega
 have hw2 : IntKind.i64.wrap (calls + 1 - 1) = calls := by rw [IntKind.wrap_i64]; omega
 have hk : Keeps (fun g => ¬ N g) w (w.setCell ⟨F, 1, none⟩ (.int .i64 (calls + 1))) := (Keeps.refl _ _).setCell (p := ⟨F, 1, none⟩) (.inl h.notN) _
 have HC := h.called (calls + 1)
 have f0 := FS.c0; have f1 := FS.c1; have f2 := FS.c2; have fz := FS.fz; have fl := FS.lt
 clear h
 go_enter Tryz.func20, Tryz.ntmps20
 go_upto_region 2 with fail
 clear f0 f1 f2 fz fl
 clear FS
 have FS := HC
 have f0 := FS.c0; have f1 := FS.c1; have f2 := FS.c2; have fz := FS.fz; have fl := FS.lt
 generalize w.setCell ⟨F, 1, none⟩ (.int .i64 (calls + 1)) = w2 at *
 by_cases hc : calls = fail
 ·have hb : (calls == fail) = true := by simpa using hc
  go_quiet (fail)
  go_wp2
  go_ret
  exact ⟨ret_i64 (by unfold callE; rw [if_pos hc]), FS.on ((Keeps.refl _ _).drewN _), hk.trans ((Keeps.refl _ _).drewN _)⟩
 ·have hb : (calls == fail) = false := by simpa using hc
  go_quiet (fail)
  go_wp2
  go_ret
  exact ⟨ret_i64 (by unfold callE; rw [if_neg hc]), FS.on ((Keeps.refl _ _).drewN _), hk.trans ((Keeps.refl _ _).drewN _)⟩
theorem fresh_any (m mask : Int) (w : World) :
 Calls Tryz.prog 40 #[.int .i64 m, .int .i64 mask] w fun e w' => e = .returned (.int .i64 (freshM m mask)) ∧ w = w' := by
 go_enter Tryz.func40, Tryz.ntmps40
 go_wp2
 go_ret
 exact ⟨rfl, rfl⟩
theorem FSt.tell (h : FSt N w F a d room calls fail) (i : Int) :
 ∃ k m l hh z : Int, k = (nd d i).kind ∧ (has d i -> m = (nd d i).mode) ∧ (¬ has d i -> m = 0) ∧ infoAt d i = .agg #[.int .i64 k, .int .i64 m, .int .i64 l, .int .i64 hh, .int .i64 z] := by
 by_cases hi : has d i
 ·exact ⟨_, _, _, _, _, rfl, fun _ => rfl, fun h => absurd hi h, by unfold infoAt infoV; rw [if_pos hi]⟩
 ·refine ⟨0, 0, 0, 0, 0, (not_has hi).symm ▸ rfl, fun h => absurd h hi, fun _ => rfl, by unfold infoAt noInfo; rw [if_neg hi]⟩
theorem bitsB (b : Nat) (n : Fin 4096) : (b = 64 ∨ b = 128 ∨ b = 256) -> (bits BinOp.and IntKind.i64 (n.val : Int) (b : Int) == 0) = decide ((n.val : Int) / (b : Int) % 2 = 0) := by
 rintro (rfl | rfl | rfl)
 ·revert n; decide +kernel
 ·revert n; decide +kernel
 ·revert n; decide +kernel
theorem bitsB_of (b : Nat) (hb : b = 64 ∨ b = 128 ∨ b = 256) (m : Int) (h0 : 0 <= m) (h1 : m <= 4095) : (bits BinOp.and IntKind.i64 m (b : Int) == 0) = decide (m / (b : Int) % 2 = 0) := by
 have := bitsB b ⟨m.toNat, by omega⟩ hb
 simp only [Int.toNat_of_nonneg h0] at this
 exact this
theorem may_any (h : FSt N w F a d room calls fail) (i : Int) (b : Nat) (hb : b = 64 ∨ b = 128 ∨ b = 256) :
 Calls Tryz.prog 50 #[.pointer (some ⟨F, 0, none⟩), .int .i64 i, .int .i64 (b : Int)] w fun e w' => e = .returned (.int .i64 (mayE d i b)) ∧ Keeps NoB w w' := by
 obtain ⟨k, m, l, hh, z, hk, hm, hm0, he⟩ := h.tell i
 have HI := Lib.hid (h.info i)
 have HE := Lib.hid (show mayE d i b = if ¬ has d i then 12 else if (bits BinOp.and IntKind.i64 m (b : Int) == 0) = true then 19 else 0 by
  unfold mayE
  by_cases hi : has d i
  ·rw [hm hi, bitsB_of b hb _ ((h.pd.inv.node i).mode0) ((h.pd.inv.node i).mode1)]
   simp [hi]
  ·simp [hi])
 have HH : has d i ∨ ¬ has d i := Classical.em _
 have FS := h
 have f0 := FS.c0; have f1 := FS.c1; have f2 := FS.c2; have fz := FS.fz; have fl := FS.lt
 clear h hk hm hm0
 rw [he] at HI
 generalize (b : Int) = bb at *
 rcases HH with hi | hi
 ·simp only [if_pos hi] at HI
  go_enter Tryz.func50, Tryz.ntmps50
  go_wp2_with (go_at_call 37; go_loud (refine HI.out.mono ?_); rintro e w2 ⟨rfl, hk2⟩)
  all_goals
   go_ret
   refine ⟨ret_i64 ?_, hk2.alloc _⟩
   rw [HE.out, if_neg (by simpa using hi)]
   simp_all
 ·simp only [if_neg hi] at HI
  go_enter Tryz.func50, Tryz.ntmps50
  go_wp2_with (go_at_call 37; go_loud (refine HI.out.mono ?_); rintro e w2 ⟨rfl, hk2⟩)
  all_goals
   go_ret
   refine ⟨ret_i64 ?_, hk2.alloc _⟩
   rw [HE.out, if_pos hi]
end
end Go.Proofs.YtimidmogcbapnaaGreatDoor
