/-
  Contracts of package walk: There.
-/
import Derived.Test.YtimidmogcbapnaaGreatDoorG11
import Derived.Test.YtimidmogcbapnaaGreatDoorG05
import Derived.Test.YtimidmogcbapnaaGreatDoorG06

set_option linter.unusedSimpArgs false
set_option linter.unusedVariables false
set_option maxRecDepth 100000
set_option maxHeartbeats 2000000
namespace Go.Proofs.YtimidmogcbapnaaGreatDoor
open Go Go.RowKit
def thereR (F : Plc × Int) : Plc × Int := if F.2 ≠ 0 then (.no, F.2) else if F.1.node = 0 then (.no, 12) else F
section
variable {R : RD} {w0 w w' : World} {a g : Nat} {d : Nds} {room us : Int} {lk up : Int -> Int}
theorem wthere_any (h : Rep R w a d room us lk up) (hI : DInv d) (hs : smallD d) (from' : Int) (s0 : ByteArray) (follow : Bool) (hsz : s0.size <= 4294967280) :
 Calls Tryz.prog 26 #[.pointer (some ⟨a, 0, none⟩), .int .i64 from', .string s0, .bool follow] w fun e w' =>
  e = .returned (.tuple #[plcV (thereR (findR d up follow 41 from' s0 0)).1, .int .i64 (thereR (findR d up follow 41 from' s0 0)).2]) ∧ Keeps NoB w w' := by
 have k1 : Keeps NoB w (w.alloc (.cells #[.int .i64 0, .int .i64 0, .string ⟨#[]⟩] 60)) := (Keeps.refl _ _).alloc _
 have HFi := Lib.hid (wfind_any (h.keepN k1) hI hs from' s0 follow hsz)
 obtain ⟨⟨⟨node, dir, name⟩, fe⟩, hF⟩ : ∃ F, findR d up follow 41 from' s0 0 = F := ⟨_, rfl⟩
 rw [hF] at HFi ⊢
 clear hF
 unfold plcV at HFi
 simp only at HFi
 go_enter Tryz.func26, Tryz.ntmps26
 go_upto_region 2 with (first | (go_at_call 21; go_loud (refine HFi.out.mono ?_); rintro e w2 ⟨rfl, hk2⟩))
 have kz : Keeps NoB w (w2.alloc (.cells #[.int .i64 node, .int .i64 dir, .string name] 60)) := (k1.trans hk2).alloc _
 have KB := (c3_new (v0 := .int .i64 0) (v1 := .int .i64 0) (v2 := .string ⟨#[]⟩) hk2).on ((Keeps.refl NoB w2).alloc (.cells #[.int .i64 node, .int .i64 dir, .string name] 60))
 have KQ := c3_new (v0 := .int .i64 node) (v1 := .int .i64 dir) (v2 := .string name) (Keeps.refl NoB (w2.alloc (.cells #[.int .i64 node, .int .i64 dir, .string name] 60)))
 have hqb : w.heap.size < w2.heap.size := Nat.lt_of_lt_of_le (by simp) hk2.size
 generalize w2.alloc (.cells #[.int .i64 node, .int .i64 dir, .string name] 60) = w3 at *
 generalize w2.heap.size = qb at *
 clear HFi k1 hk2
 have B0 := KB.c0
 have B1 := KB.c1
 have B2 := KB.c2
 have FB := KB.fz
 have q0 := KQ.c0
 have q1 := KQ.c1
 have q2 := KQ.c2
 have ql := KQ.lt
 have bl := KB.lt
 by_cases he : fe ≠ 0
 ·have hne : (fe != 0) = true := by simpa using he
  have HQ := Lib.hid (show thereR (⟨node, dir, name⟩, fe) = (.no, fe) by unfold thereR; rw [if_pos he])
  clear he
  go_wp2_with fail
  (try simp only [Exit.inBlock, Exit.then])
  refine bodyPost_ret (v := .tuple #[plcV .no, .int .i64 fe]) ?_ rfl ?_
  ·rw [results_cell_tmp rfl]; unfold plcV Plc.no; go_simp
  ·refine ⟨by rw [HQ.out], ?_⟩
   (repeat (first | with_reducible assumption | (with_reducible exact Keeps.refl _ _) | (with_reducible refine Keeps.drew ?_) | (with_reducible refine Keeps.alloc ?_ _) | (with_reducible refine Keeps.setCell ?_ (by first | exact Or.inl rfl | exact Or.inr (Nat.le_refl _) | exact Or.inr (by first | (simp; done) | (simp; omega))) _)))
 ·have he0 : fe = 0 := Classical.not_not.1 he
  subst he0
  by_cases hn : node = 0
  ·have hb : (node == 0) = true := by simpa using hn
   have HQ := Lib.hid (show thereR (⟨node, dir, name⟩, 0) = (.no, 12) by unfold thereR; rw [if_neg (by simp), if_pos hn])
   clear hn he
   go_wp2_with fail
   (try simp only [Exit.inBlock, Exit.then])
   refine bodyPost_ret (v := .tuple #[plcV .no, .int .i64 12]) ?_ rfl ?_
   ·rw [results_cell_tmp rfl]; unfold plcV Plc.no; go_simp
   ·refine ⟨by rw [HQ.out], ?_⟩
    (repeat (first | with_reducible assumption | (with_reducible exact Keeps.refl _ _) | (with_reducible refine Keeps.drew ?_) | (with_reducible refine Keeps.alloc ?_ _) | (with_reducible refine Keeps.setCell ?_ (by first | exact Or.inl rfl | exact Or.inr (Nat.le_refl _) | exact Or.inr (by first | (simp; done) | (simp; omega))) _)))
  ·have hb : (node == 0) = false := by simpa using hn
   have HQ := Lib.hid (show thereR (⟨node, dir, name⟩, 0) = (⟨node, dir, name⟩, 0) by unfold thereR; rw [if_neg (by simp), if_neg hn])
   clear hn he
   go_wp2_with fail
   (try simp only [Exit.inBlock, Exit.then])
   refine bodyPost_ret (v := .tuple #[plcV ⟨node, dir, name⟩, .int .i64 0]) ?_ rfl ?_
   ·rw [results_cell_tmp rfl]; unfold plcV; go_simp
   ·refine ⟨by rw [HQ.out], ?_⟩
    (repeat (first | with_reducible assumption | (with_reducible exact Keeps.refl _ _) | (with_reducible refine Keeps.drew ?_) | (with_reducible refine Keeps.alloc ?_ _) | (with_reducible refine Keeps.setCell ?_ (by first | exact Or.inl rfl | exact Or.inr (Nat.le_refl _) | exact Or.inr (by first | (simp; done) | (simp; omega))) _)))
end
end Go.Proofs.YtimidmogcbapnaaGreatDoor
namespace Go.Proofs.YtimidmogcbapnaaGreatDoor
-- what a call makes of the nodes
noncomputable def relD (d : Nds) (i : Int) : Nds := if relErr d i = 0 then gc (relTo d i) else d
def holdD (d : Nds) (i : Int) : Nds := if has d i then holdTo d i else d
def hldErr (d : Nds) (i : Int) : Int := if has d i then 0 else 12
def chmodD (d : Nds) (i m : Int) : Nds := if chmodErr d i m = 0 then chmodTo d i m else d
def emptyD (d : Nds) (i : Int) : Nds := if fileErr d i = 0 then emptyTo d i else d
def mayE (d : Nds) (id bit : Int) : Int := if ¬ has d id then 12 else if (nd d id).mode / bit % 2 = 0 then 19 else 0
noncomputable def fndR (d : Nds) (at' : Int) (s : ByteArray) (follow : Bool) : Plc × Int := findR d (upC d) follow 41 at' s 0
noncomputable def thrR (d : Nds) (at' : Int) (s : ByteArray) (follow : Bool) : Plc × Int := thereR (fndR d at' s follow)
noncomputable def freeR (d : Nds) (at' : Int) (s : ByteArray) (slash : Bool) : Plc × Int :=
 if (fndR d at' s false).2 ≠ 0 then (.no, (fndR d at' s false).2)
 else if (fndR d at' s false).1.node ≠ 0 then (.no, 13)
 else if slash = false ∧ endS s = true then (.no, 12)
 else ((fndR d at' s false).1, mayE d (fndR d at' s false).1.dir 128)
def callE (calls fail : Int) : Int := if calls = fail then 21 else 0
def freshM (m mask : Int) : Int := bits BinOp.andNot IntKind.i64 m (bits BinOp.and IntKind.i64 mask 511)
noncomputable def entrR (d : Nds) (room : Int) (p : Plc) (id : Int) : Nds × Int := (relD (enterD d room p.dir p.name id) id, enterErr d room p.dir p.name id)
noncomputable def madeR (d : Nds) (room : Int) (p : Plc) (kind m : Int) (s : ByteArray) : Nds × Int :=
 if makeErr d room kind m s ≠ 0 then (d, makeErr d room kind m s) else entrR (d ++ [newNd kind m s]) room p d.length
noncomputable def mkdirR (d : Nds) (room at' mask : Int) (s : ByteArray) (m : Int) : Nds × Int :=
 if (freeR d at' s true).2 ≠ 0 then (d, (freeR d at' s true).2) else madeR d room (freeR d at' s true).1 2 (freshM m mask) ⟨#[]⟩
noncomputable def symR (d : Nds) (room at' : Int) (t s : ByteArray) : Nds × Int :=
 if pathErr t ≠ 0 then (d, pathErr t) else if (freeR d at' s false).2 ≠ 0 then (d, (freeR d at' s false).2) else madeR d room (freeR d at' s false).1 3 511 t
noncomputable def linkR (d : Nds) (room at' : Int) (old s : ByteArray) : Nds × Int :=
 if (thrR d at' old false).2 ≠ 0 then (d, (thrR d at' old false).2)
 else if (nd d (thrR d at' old false).1.node).kind = 2 then (d, 22)
 else if (freeR d at' s false).2 ≠ 0 then (d, (freeR d at' s false).2)
 else (enterD d room (freeR d at' s false).1.dir (freeR d at' s false).1.name (thrR d at' old false).1.node, enterErr d room (freeR d at' s false).1.dir (freeR d at' s false).1.name (thrR d at' old false).1.node)
noncomputable def renR (d : Nds) (room at' : Int) (a b : ByteArray) : Nds × Int :=
 if (thrR d at' a false).2 ≠ 0 then (d, (thrR d at' a false).2)
 else if (fndR d at' b false).2 ≠ 0 then (d, (fndR d at' b false).2)
 else if (thrR d at' a false).1.name = ⟨#[]⟩ ∨ (fndR d at' b false).1.name = ⟨#[]⟩ then (d, 23)
 else if (fndR d at' b false).1.node = 0 ∧ endS b = true ∧ (nd d (thrR d at' a false).1.node).kind ≠ 2 then (d, 14)
 else if mayE d (thrR d at' a false).1.dir 128 ≠ 0 then (d, mayE d (thrR d at' a false).1.dir 128)
 else if mayE d (fndR d at' b false).1.dir 128 ≠ 0 then (d, mayE d (fndR d at' b false).1.dir 128)
 else (moveD d room (thrR d at' a false).1.dir (thrR d at' a false).1.name (fndR d at' b false).1.dir (fndR d at' b false).1.name, moveErr d room (thrR d at' a false).1.dir (thrR d at' a false).1.name (fndR d at' b false).1.dir (fndR d at' b false).1.name)
noncomputable def chmR (d : Nds) (at' : Int) (s : ByteArray) (m : Int) : Nds × Int :=
 if (thrR d at' s true).2 ≠ 0 then (d, (thrR d at' s true).2) else (chmodD d (thrR d at' s true).1.node m, chmodErr d (thrR d at' s true).1.node m)
def flg (flags n : Int) : Bool := bits BinOp.and IntKind.i64 flags n != 0
noncomputable def freshR (d : Nds) (room mask : Int) (p : Plc) (s : ByteArray) (flags m : Int) : Nds × Int × Int :=
 if flg flags 4 = false then (d, 0, 12)
 else if endS s = true then (d, 0, 15)
 else if mayE d p.dir 128 ≠ 0 then (d, 0, mayE d p.dir 128)
 else if makeErr d room 1 (freshM m mask) ⟨#[]⟩ ≠ 0 then (d, 0, makeErr d room 1 (freshM m mask) ⟨#[]⟩)
 else if enterErr (d ++ [newNd 1 (freshM m mask) ⟨#[]⟩]) room p.dir p.name d.length ≠ 0 then
  (relD (enterD (d ++ [newNd 1 (freshM m mask) ⟨#[]⟩]) room p.dir p.name d.length) d.length, 0, enterErr (d ++ [newNd 1 (freshM m mask) ⟨#[]⟩]) room p.dir p.name d.length)
 else (enterD (d ++ [newNd 1 (freshM m mask) ⟨#[]⟩]) room p.dir p.name d.length, d.length, 0)
def thereErr (d : Nds) (id flags : Int) : Int :=
 if (nd d id).kind = 2 then 15 else if (nd d id).kind ≠ 1 then 17
 else if (flg flags 1 = true ∧ (nd d id).mode / 256 % 2 = 0) ∨ (flg flags 10 = true ∧ (nd d id).mode / 128 % 2 = 0) then 19 else 0
def openedR (d : Nds) (id flags : Int) : Nds × Int × Int :=
 if thereErr d id flags ≠ 0 then (d, 0, thereErr d id flags)
 else (holdD (if flg flags 8 = true then emptyD d id else d) id, id, hldErr (if flg flags 8 = true then emptyD d id else d) id)
def aloneF (flags : Int) : Bool := flg flags 4 && flg flags 16
noncomputable def openR (d : Nds) (room at' mask : Int) (s : ByteArray) (flags m : Int) : Nds × Int × Int :=
 if (fndR d at' s (!aloneF flags)).2 ≠ 0 then (d, 0, (fndR d at' s (!aloneF flags)).2)
 else if (fndR d at' s (!aloneF flags)).1.node = 0 then freshR d room mask (fndR d at' s (!aloneF flags)).1 s flags m
 else if aloneF flags = true then (d, 0, 13)
 else openedR d (fndR d at' s (!aloneF flags)).1.node flags
def openC (flags : Int) : Bool := flg flags 12
def orFail (calls fail : Int) (d : Nds) (x : Nds × Int) : Nds × Int := if callE calls fail ≠ 0 then (d, callE calls fail) else x
end Go.Proofs.YtimidmogcbapnaaGreatDoor
namespace Go.Proofs.YtimidmogcbapnaaGreatDoor
open Go Go.RowKit
structure FSt (N : Nat -> Prop) (w : World) (F a : Nat) (d : Nds) (room calls fail : Int) : Prop where
 pd : PD (fun g => N g ∨ g = F) w a d room
 notN : ¬ N F
 c0 : w.cell? ⟨F, 0, none⟩ = some (.pointer (some ⟨a, 0, none⟩))
 c1 : w.cell? ⟨F, 1, none⟩ = some (.int .i64 calls)
 c2 : w.cell? ⟨F, 2, none⟩ = some (.int .i64 fail)
 fz : ∀ j, w.frozen? ⟨F, j, none⟩ = false
section
variable {N : Nat -> Prop} {w w' : World} {F a : Nat} {d d' : Nds} {room calls fail : Int}
theorem FSt.lt (h : FSt N w F a d room calls fail) : F < w.heap.size := h.pd.low F (.inr rfl)
theorem FSt.low (h : FSt N w F a d room calls fail) (x : Nat) (hx : N x) : x < w.heap.size := h.pd.low x (.inl hx)
theorem FSt.turn {G : Nat -> Prop} (h : FSt N w F a d room calls fail) (hp : PD (fun g => N g ∨ g = F) w' a d' room) (k : Keeps G w w') (hG : ¬ G F) : FSt N w' F a d' room calls fail :=
 ⟨hp, h.notN, (k.cell (p := ⟨F, 0, none⟩) h.lt hG).trans h.c0, (k.cell (p := ⟨F, 1, none⟩) h.lt hG).trans h.c1, (k.cell (p := ⟨F, 2, none⟩) h.lt hG).trans h.c2, fun j => (k.frozen (p := ⟨F, j, none⟩) h.lt hG).trans (h.fz j)⟩
theorem FSt.keep {G : Nat -> Prop} (h : FSt N w F a d room calls fail) (k : Keeps G w w') (hG : ∀ x, G x -> N x) : FSt N w' F a d room calls fail :=
 h.turn (h.pd.keep k (fun x _ hx => .inl (hG x hx))) k (fun hx => h.notN (hG F hx))
theorem FSt.on (h : FSt N w F a d room calls fail) (k : Keeps NoB w w') : FSt N w' F a d room calls fail := h.keep k (fun _ hx => hx.elim)
theorem FSt.more (h : FSt N w F a d room calls fail) (k : Keeps NoB w w') (b : Nat) (h1 : w.heap.size <= b) (h2 : b < w'.heap.size) : FSt (fun g => N g ∨ g = b) w' F a d room calls fail := by
 have h3 := h.on k
 have hl := h.lt
 refine ⟨h.pd.grow k (fun _ _ hx => hx.elim) (fun x hx => ?_), fun hx => hx.elim h.notN (fun e => by omega), h3.c0, h3.c1, h3.c2, h3.fz⟩
 rcases hx with (hx | rfl) | rfl
 ·exact .inl (.inl hx)
 ·exact .inr ⟨h1, h2⟩
 ·exact .inl (.inr rfl)
theorem FSt.less {N' : Nat -> Prop} (h : FSt N w F a d room calls fail) (hN : ∀ x, N' x -> N x) : FSt N' w F a d room calls fail :=
 ⟨h.pd.less (fun x hx => hx.elim (fun hx => .inl (hN x hx)) .inr), fun hx => h.notN (hN F hx), h.c0, h.c1, h.c2, h.fz⟩
theorem FSt.called (h : FSt N w F a d room calls fail) (c' : Int) : FSt N (w.setCell ⟨F, 1, none⟩ (.int .i64 c')) F a d room c' fail := by
 have k := keeps_set w ⟨F, 1, none⟩ (.int .i64 c')
 have a0 := cell_set (g := F) (k := 1) (u := .int .i64 c') (j := 0) h.c0
 have a1 := cell_set (g := F) (k := 1) (u := .int .i64 c') (j := 1) h.c1
 have a2 := cell_set (g := F) (k := 1) (u := .int .i64 c') (j := 2) h.c2
 rw [if_neg (by decide)] at a0
 rw [if_pos rfl] at a1
 rw [if_neg (by decide)] at a2
 exact ⟨h.pd.keep k (fun x _ hx => .inr hx), h.notN, a0, a1, a2, fun j => (frozen_set _ _ _ _).trans (h.fz j)⟩
theorem FSt.prog {f : Nat} {args : Array Value} {E : Ending} (h : FSt N w F a d room calls fail) (hc : ∀ R, IsDisk R w a d room -> Calls Tryz.prog f args w fun e w' => e = E ∧ DiskTo R w a d' room w') :
 Calls Tryz.prog f args w fun e w' => e = E ∧ FSt N w' F a d' room calls fail ∧ Keeps (fun g => ¬ (N g ∨ g = F)) w w' := by
 refine (h.pd.prog hc).mono ?_
 rintro e w' ⟨rfl, h1, h2⟩
 exact ⟨rfl, h.turn h1 h2 (fun hx => hx (.inr rfl)), h2⟩
theorem FSt.find (h : FSt N w F a d room calls fail) (from' : Int) (s : ByteArray) (follow : Bool) (hsz : s.size <= 4294967280) :
 Calls Tryz.prog 21 #[.pointer (some ⟨a, 0, none⟩), .int .i64 from', .string s, .bool follow] w fun e w' =>
  e = .returned (.tuple #[plcV (findR d (upC d) follow 41 from' s 0).1, .int .i64 (findR d (upC d) follow 41 from' s 0).2]) ∧ Keeps NoB w w' :=
 h.pd.tells fun R lk up hR _ hup => by
  rw [<- find_up hup]
  exact wfind_any hR h.pd.inv h.pd.small from' s follow hsz
theorem FSt.there (h : FSt N w F a d room calls fail) (from' : Int) (s : ByteArray) (follow : Bool) (hsz : s.size <= 4294967280) :
 Calls Tryz.prog 26 #[.pointer (some ⟨a, 0, none⟩), .int .i64 from', .string s, .bool follow] w fun e w' =>
  e = .returned (.tuple #[plcV (thereR (findR d (upC d) follow 41 from' s 0)).1, .int .i64 (thereR (findR d (upC d) follow 41 from' s 0)).2]) ∧ Keeps NoB w w' :=
 h.pd.tells fun R lk up hR _ hup => by
  rw [<- find_up hup]
  exact wthere_any hR h.pd.inv h.pd.small from' s follow hsz
def infoAt (d : Nds) (i : Int) : Value := if has d i then infoV (nd d i) ((links d i : Nat) : Int) else noInfo
theorem FSt.info (h : FSt N w F a d room calls fail) (i : Int) :
 Calls Tryz.prog 37 #[.pointer (some ⟨a, 0, none⟩), .int .i64 i] w fun e w' => e = .returned (.tuple #[infoAt d i, .int .i64 (if has d i then 0 else 12)]) ∧ Keeps NoB w w' :=
 h.pd.tells fun R lk up hR hlk _ => by
  have := info_any hR i
  unfold infoAt
  by_cases hi : has d i
  ·rw [if_pos hi, if_pos hi] at this ⊢
   rw [<- hlk i hi]
   exact this
  ·rw [if_neg hi, if_neg hi] at this ⊢
   exact this
end
end Go.Proofs.YtimidmogcbapnaaGreatDoor
