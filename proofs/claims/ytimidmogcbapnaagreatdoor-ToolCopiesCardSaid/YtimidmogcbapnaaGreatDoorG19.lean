/-
  Layer 6: contracts of files: List.
-/
import Derived.Test.YtimidmogcbapnaaGreatDoorG18
import Derived.Test.YtimidmogcbapnaaGreatDoorG17
import Derived.Deep.RegionHeld3
import Derived.BigRegion
import Derived.Test.YtimidmogcbapnaaGreatDoorG01
import Derived.Test.YtimidmogcbapnaaGreatDoorG14

set_option linter.unusedSimpArgs false
set_option linter.unusedVariables false
set_option maxRecDepth 100000
set_option maxHeartbeats 4000000
namespace Go.Proofs.YtimidmogcbapnaaGreatDoor
open Go Go.RowKit
section
variable {N : Nat -> Prop} {w w' : World} {F a : Nat} {d d' : Nds} {room calls fail : Int}
def lstE (d : Nds) (X : Plc × Int) : Int :=
 if statE d X ≠ 0 then statE d X else if (nd d X.1.node).kind ≠ 2 then 14 else if (bits BinOp.and IntKind.i64 (nd d X.1.node).mode 256 == 0) = true then 19 else 0
theorem FSt.list (h : FSt N w F a d room calls fail) (i : Int) (hn : (nd d i).ents.length < 4294967295) :
 Calls Tryz.prog 95 #[.pointer (some ⟨a, 0, none⟩), .int .i64 i] w fun e w' => ∃ v, e = .returned (.tuple #[v, .int .i64 (folderErr d i)]) ∧ Own encEnt 133 (fun g => w.heap.size <= g) w' v (if folderErr d i = 0 then (nd d i).ents else []) ∧ Keeps NoB w w' :=
 h.pd.tells fun _ _ _ hR _ _ => listD_any hR i hn
theorem statV_ok {d : Nds} {X : Plc × Int} (h : statE d X = 0) : statV d X = infoAt d X.1.node ∧ has d X.1.node := by
 unfold statE at h
 unfold statV
 by_cases h0 : X.2 ≠ 0
 ·rw [if_pos h0] at h; exact absurd h h0
 ·rw [if_neg h0] at h ⊢
  by_cases h1 : has d X.1.node
  ·exact ⟨rfl, h1⟩
  ·rw [if_neg h1] at h; cases h
theorem statV_shape (h : FSt N w F a d room calls fail) (X : Plc × Int) : ∃ k m l hh z : Int, statV d X = .agg #[.int .i64 k, .int .i64 m, .int .i64 l, .int .i64 hh, .int .i64 z] ∧ (statE d X = 0 -> k = (nd d X.1.node).kind ∧ m = (nd d X.1.node).mode) := by
 by_cases h0 : X.2 ≠ 0
 ·refine ⟨0, 0, 0, 0, 0, by unfold statV noInfo; rw [if_pos h0], fun h1 => ?_⟩
  unfold statE at h1
  rw [if_pos h0] at h1
  exact absurd h1 h0
 ·obtain ⟨k, m, l, hh, z, h1, h2, _, h4⟩ := h.tell X.1.node
  refine ⟨k, m, l, hh, z, by unfold statV; rw [if_neg h0]; exact h4, fun he => ⟨h1, h2 (statV_ok he).2⟩⟩
theorem fsList_any (h : FSt N w F a d room calls fail) (at' mask : Int) (s : ByteArray) (hsz : s.size <= 4294967280) (hn : ∀ i, (nd d i).ents.length < 4294967295) :
 Calls Tryz.prog 104 #[.pointer (some ⟨F, 0, none⟩), .agg #[.int .i64 at', .int .i64 mask], .string s] w fun e w' =>
  ∃ v, e = .returned (.tuple #[v, .int .i64 (lstE d (thrR d at' s true))]) ∧ Own encEnt 133 (fun g => w.heap.size <= g) w' v (if lstE d (thrR d at' s true) = 0 then (nd d (thrR d at' s true).1.node).ents else []) ∧ Keeps NoB w w' := by
 have HS := Lib.hid (fun wx (k : Keeps NoB w wx) => stat_any (h.on k) at' mask s true hsz)
 obtain ⟨X, hX⟩ : ∃ X, thrR d at' s true = X := ⟨_, rfl⟩
 rw [hX] at HS ⊢
 clear hX
 obtain ⟨ik, im, il, ih, iz, hsv, hkm⟩ := statV_shape h X
 rw [hsv] at HS
 obtain ⟨se, hse⟩ : ∃ se, statE d X = se := ⟨_, rfl⟩
 rw [hse] at HS hkm
 obtain ⟨le, hle⟩ : ∃ le, lstE d X = le := ⟨_, rfl⟩
 rw [hle]
 unfold lstE at hle
 rw [hse] at hle
 obtain ⟨pn, hpn⟩ : ∃ pn, X.1.node = pn := ⟨_, rfl⟩
 rw [hpn] at HS hkm hle ⊢
 have HF := Lib.hid h
 have HL := Lib.hid (fun wx (k : Keeps NoB w wx) => (h.on k).list pn (hn pn))
 have f0 := h.c0
 have HK0 := Lib.hid ((Keeps.refl NoB w).alloc (.cells #[.int .i64 at', .int .i64 mask] 28))
 clear h hsv hn
 by_cases h1 : se ≠ 0
 ·rw [if_pos h1] at hle
  subst hle
  rw [if_neg h1]
  have hb : (se != 0) = true := by simpa using h1
  clear h1 hkm hse
  go_enter Tryz.func104, Tryz.ntmps104
  go_wp2_with (go_at_call 12; go_loud (refine (HS.out _ HK0.out).mono ?_); rintro e w4 ⟨rfl, hk4⟩)
  go_ret2
  exact ⟨_, rfl, Own.nil _ _ _ _, (HK0.out.trans hk4).alloc _⟩
 have h1' : se = 0 := Classical.not_not.1 h1
 rw [if_neg h1] at hle
 subst h1'
 obtain ⟨rfl, rfl⟩ := hkm rfl
 have hb : ((0 : Int) != 0) = false := rfl
 clear hkm hse h1
 by_cases h2 : (nd d pn).kind ≠ 2
 ·rw [if_pos h2] at hle
  subst hle
  rw [if_neg (by decide)]
  have hb2 : ((nd d pn).kind != 2) = true := by simpa using h2
  generalize (nd d pn).kind = kd at *
  generalize (nd d pn).mode = md at *
  clear h2 HL
  go_enter Tryz.func104, Tryz.ntmps104
  go_wp2_with (go_at_call 12; go_loud (refine (HS.out _ HK0.out).mono ?_); rintro e w4 ⟨rfl, hk4⟩)
  go_ret2
  exact ⟨_, rfl, Own.nil _ _ _ _, (HK0.out.trans hk4).alloc _⟩
 rw [if_neg h2] at hle
 have h2' : (nd d pn).kind = 2 := Classical.not_not.1 h2
 have hfe : folderErr d pn = 0 := by unfold folderErr; rw [if_neg (by omega), if_pos h2']
 have hb2 : ((nd d pn).kind != 2) = false := by rw [h2']; rfl
 cases hb3 : (bits BinOp.and IntKind.i64 (nd d pn).mode 256 == 0) with
 | true =>
   rw [hb3, if_pos rfl] at hle
   subst hle
   rw [if_neg (by decide)]
   generalize (nd d pn).kind = kd at *
   generalize (nd d pn).mode = md at *
   clear h2 h2' HL hfe
   go_enter Tryz.func104, Tryz.ntmps104
   go_wp2_with (go_at_call 12; go_loud (refine (HS.out _ HK0.out).mono ?_); rintro e w4 ⟨rfl, hk4⟩)
   go_ret2
   exact ⟨_, rfl, Own.nil _ _ _ _, (HK0.out.trans hk4).alloc _⟩
 | false =>
   rw [hb3, if_neg (by decide)] at hle
   subst hle
   rw [if_pos rfl]
   rw [hfe, if_pos rfl] at HL
   generalize (nd d pn).kind = kd at *
   generalize (nd d pn).mode = md at *
   generalize (nd d pn).ents = es at *
   clear h2 h2' hfe
   go_enter Tryz.func104, Tryz.ntmps104
   go_upto_region 8 with (go_at_call 12; go_loud (refine (HS.out _ HK0.out).mono ?_); rintro e w4 ⟨rfl, hk4⟩)
   have HK5 := Lib.hid ((HK0.out.trans hk4).alloc (.cells #[.int .i64 kd, .int .i64 md, .int .i64 il, .int .i64 ih, .int .i64 iz] 42))
   have f5 := (HF.out.on HK5.out).c0
   clear hk4
   go_wp2_with (go_at_call 95; go_loud (refine (HL.out _ HK5.out).mono ?_); rintro e w6 ⟨v, rfl, ho, hk6⟩)
   go_ret2
   exact ⟨_, rfl, ho.mono (fun g hg h => Nat.le_trans HK5.out.size h), HK5.out.trans hk6⟩
end
set_option maxHeartbeats 8000000
structure TW (W : World) (Q : Nat -> Prop) (w : World) (B F a : Nat) (d : Nds) (room calls fail : Int) (cs : List Value) : Prop where
 fx : FSx W (fun g => g = B ∨ Q g) w F a d room calls fail
 bx : Bx w B cs
 low : W.heap.size <= B
 nQ : ¬ Q B
def wkC (name : ByteArray) (F : Nat) (at' mask : Int) (iv : Value) (out err : ByteArray) (st : Int) : List Value :=
 [.string name, .pointer (some ⟨F, 0, none⟩), .int .i64 at', .int .i64 mask, iv, .string out, .string err, .int .i64 st]
section
variable {W w : World} {Q : Nat -> Prop} {B F a : Nat} {d d' : Nds} {room calls fail at' mask st : Int} {name out err : ByteArray} {iv : Value}
theorem TW.on {w' : World} {cs : List Value} (h : TW W Q w B F a d room calls fail cs) (k : Keeps NoB w w') : TW W Q w' B F a d room calls fail cs :=
 ⟨h.fx.on k, h.bx.on k, h.low, h.nQ⟩
abbrev Gd (W : World) (Q : Nat -> Prop) (B : Nat) : Nat -> Prop := fun g => ¬ (g < W.heap.size ∨ g = B ∨ Q g)
abbrev Lw (W : World) (Q : Nat -> Prop) : Nat -> Prop := fun g => W.heap.size <= g ∧ ¬ Q g
theorem TW.call {cs : List Value} {f : Nat} {args : Array Value} {V : Value} {calls' : Int} (h : TW W Q w B F a d room calls fail cs) (hc : ∀ N : Nat -> Prop, FSt N w F a d room calls fail -> Calls Tryz.prog f args w (FTo N w F a d' room calls' fail V)) :
 Calls Tryz.prog f args w fun e w' => e = .returned V ∧ TW W Q w' B F a d' room calls' fail cs ∧ Keeps (Gd W Q B) w w' := by
 refine (h.fx.call hc).mono ?_
 rintro e w' ⟨rfl, h1, h2⟩
 exact ⟨rfl, ⟨h1, h.fx.kept h.bx h2 (.inl rfl), h.low, h.nQ⟩, h2⟩
theorem TW.put {cs : List Value} (h : TW W Q w B F a d room calls fail cs) (i : Nat) (v : Value) : TW W Q (w.setCell ⟨B, i, none⟩ v) B F a d room calls fail (cs.set i v) :=
 ⟨h.fx.turn (keeps_set w ⟨B, i, none⟩ v) (fun g hg => ⟨.inl hg, hg ▸ h.low⟩), h.bx.put i v, h.low, h.nQ⟩
theorem gd_low {w' : World} (k : Keeps (Gd W Q B) w w') : Keeps (Lw W Q) w w' := k.mono fun g _ hg =>
 ⟨Nat.le_of_not_lt fun h => hg (.inl h), fun h => hg (.inr (.inr h))⟩
theorem wrong_ok (s : Int) (w : World) : Calls Tryz.prog 30 #[.pointer (some ⟨B, 0, none⟩), .int .i64 0, .int .i64 s] w fun e w' => e = .returned (.bool false) ∧ w = w' := by
 go_enter Tryz.func30, Tryz.ntmps30
 go_wp2_with fail
 go_ret
 exact ⟨rfl, rfl⟩
theorem line_plain (h : TW W Q w B F a d room calls fail (wkC name F at' mask iv out err st)) (got s nm : ByteArray) (hsz : s.size <= 4294967280) (hnm : nm.size <= 4294967280) (hg : bIdx got 108 < 0) {n ik im il ih iz : Int} (hn : (thrR d at' s false).1.node = n)
 (hV : statV d (thrR d at' s false) = .agg #[.int .i64 ik, .int .i64 im, .int .i64 il, .int .i64 ih, .int .i64 iz]) (hE : statE d (thrR d at' s false) = 0) :
 Calls Tryz.prog 77 #[.pointer (some ⟨B, 0, none⟩), .string got, .string s, .string nm] w fun e w' => e = .returned (.tuple #[.string (nm ++ ⟨#[10]⟩), .int .i64 0]) ∧ Keeps NoB w w' := by
 have HT := Lib.hid h
 have HV := Lib.hid hV
 have HE := Lib.hid hE
 subst hn
 have HIb := Lib.hid (fun wx => ib_any got 108 wx)
 rw [show ((108 : Int)).toNat.toUInt8 = 108 from rfl] at HIb
 obtain ⟨gi, hgi⟩ : ∃ gi, bIdx got 108 = gi := ⟨_, rfl⟩
 rw [hgi] at HIb hg
 clear h hV hE hgi
 obtain ⟨n, hn⟩ : ∃ n, (thrR d at' s false).1.node = n := ⟨_, rfl⟩
 have HSs := Lib.hid (show nm.size + 1 <= 9223372036854775807 by omega)
 go_enter Tryz.func77, Tryz.ntmps77
 have HSt := Lib.hid (fun (w1 : World) (k : Keeps NoB w w1) => (HT.out.fx.on k).asks fun N hN => stat_any hN at' mask s false hsz)
 rw [HV.out, HE.out, hn] at HSt
 clear hn
 have f0 := HT.out.bx.cell 1 _ rfl
 have b0 := HT.out.bx.cell 2 _ rfl
 have b1 := HT.out.bx.cell 3 _ rfl
 have fl := HT.out.bx.lt
 go_upto_region 1 with fail
 go_cut [10, 11, 12] from 10 to 30 (fun x y z wx => ∃ G : Nat, w.heap.size <= G ∧ x = .int .i64 n ∧ y = .pointer (some ⟨G, 0, none⟩) ∧ z = .int .i64 0 ∧ Bx wx G [.int .i64 ik, .int .i64 im, .int .i64 il, .int .i64 ih, .int .i64 iz] ∧ Keeps NoB w wx)
 case first =>
  have kr := Keeps.refl NoB w
  have krd := kr.drew
  have d0 := (HT.out.on krd).bx.cell 1 _ rfl
  have d1 := (HT.out.on krd).bx.cell 2 _ rfl
  have d2 := (HT.out.on krd).bx.cell 3 _ rfl
  go_region_held3 (fun wz => wz.cell? ⟨B, 1, none⟩ = some (.pointer (some ⟨F, 0, none⟩)) ∧ wz.cell? ⟨B, 2, none⟩ = some (.int .i64 at') ∧ wz.cell? ⟨B, 3, none⟩ = some (.int .i64 mask) ∧ Keeps NoB w wz) (refine ⟨?_, ?_, ?_, ?_⟩ <;> first | with_reducible assumption | (with_reducible refine (HT.out.on ?_).bx.cell 1 _ rfl; (repeat (first | with_reducible assumption | (with_reducible exact Keeps.refl _ _) | (with_reducible refine Keeps.drew ?_) | (with_reducible refine Keeps.drewN ?_ _) | (with_reducible refine Keeps.alloc ?_ _) | (with_reducible refine Keeps.setCell ?_ (by first | exact Or.inl rfl | exact Or.inr (Nat.le_refl _) | exact Or.inr (by first | (simp; done) | (simp; omega))) _))); done) | (with_reducible refine (HT.out.on ?_).bx.cell 2 _ rfl; (repeat (first | with_reducible assumption | (with_reducible exact Keeps.refl _ _) | (with_reducible refine Keeps.drew ?_) | (with_reducible refine Keeps.drewN ?_ _) | (with_reducible refine Keeps.alloc ?_ _) | (with_reducible refine Keeps.setCell ?_ (by first | exact Or.inl rfl | exact Or.inr (Nat.le_refl _) | exact Or.inr (by first | (simp; done) | (simp; omega))) _))); done) | (with_reducible refine (HT.out.on ?_).bx.cell 3 _ rfl; (repeat (first | with_reducible assumption | (with_reducible exact Keeps.refl _ _) | (with_reducible refine Keeps.drew ?_) | (with_reducible refine Keeps.drewN ?_ _) | (with_reducible refine Keeps.alloc ?_ _) | (with_reducible refine Keeps.setCell ?_ (by first | exact Or.inl rfl | exact Or.inr (Nat.le_refl _) | exact Or.inr (by first | (simp; done) | (simp; omega))) _))); done) | ((repeat (first | with_reducible assumption | (with_reducible exact Keeps.refl _ _) | (with_reducible refine Keeps.drew ?_) | (with_reducible refine Keeps.drewN ?_ _) | (with_reducible refine Keeps.alloc ?_ _) | (with_reducible refine Keeps.setCell ?_ (by first | exact Or.inl rfl | exact Or.inr (Nat.le_refl _) | exact Or.inr (by first | (simp; done) | (simp; omega))) _))); done))
   (first | (go_at_call 12; refine (HSt.out _ (by (repeat (first | with_reducible assumption | (with_reducible exact Keeps.refl _ _) | (with_reducible refine Keeps.drew ?_) | (with_reducible refine Keeps.drewN ?_ _) | (with_reducible refine Keeps.alloc ?_ _) | (with_reducible refine Keeps.setCell ?_ (by first | exact Or.inl rfl | exact Or.inr (Nat.le_refl _) | exact Or.inr (by first | (simp; done) | (simp; omega))) _))))).mono ?_; rintro e w2 ⟨rfl, hk2⟩; have zky : Keeps NoB w w2 := Keeps.trans (by (repeat (first | with_reducible assumption | (with_reducible exact Keeps.refl _ _) | (with_reducible refine Keeps.drew ?_) | (with_reducible refine Keeps.drewN ?_ _) | (with_reducible refine Keeps.alloc ?_ _) | (with_reducible refine Keeps.setCell ?_ (by first | exact Or.inl rfl | exact Or.inr (Nat.le_refl _) | exact Or.inr (by first | (simp; done) | (simp; omega))) _)))) hk2; have zs := zky.size; have z0 := (HT.out.on zky).bx.cell 1 _ rfl; have z1 := (HT.out.on zky).bx.cell 2 _ rfl; have z2 := (HT.out.on zky).bx.cell 3 _ rfl; (try (have yb := Bx.newD hk2; have y0 := yb.cell 0 _ rfl; have y1 := yb.cell 1 _ rfl; have y2 := yb.cell 2 _ rfl; have y3 := yb.cell 3 _ rfl; have y4 := yb.cell 4 _ rfl; have yf := yb.fz))))
  all_goals (go_wp2_with fail; go_meet; refine ⟨_, ?_, rfl, rfl, rfl, ?_, ?_⟩)
  all_goals first
   | exact Nat.le_refl _
   | exact zs
   | (with_reducible exact Bx.new (Keeps.refl NoB _))
   | (exact ((((yb.put 0 _).put 1 _).put 2 _).put 3 _).put 4 _)
   | ((repeat (first | with_reducible assumption | (with_reducible exact Keeps.refl _ _) | (with_reducible refine Keeps.drew ?_) | (with_reducible refine Keeps.drewN ?_ _) | (with_reducible refine Keeps.alloc ?_ _) | (with_reducible refine Keeps.setCell ?_ (by first | exact Or.inl rfl | exact Or.inr (Nat.le_refl _) | exact Or.inr (by first | (simp; done) | (simp; omega))) _))); done)
   | skip
 case rest =>
  obtain ⟨HIB, hG, rfl, rfl, rfl, HI, hk⟩ := hcut
  replace HI := Lib.hid HI
  have HK := Lib.hid hk
  have HG := Lib.hid hG
  replace HT := Lib.hid (HT.out.on hk)
  clear f0 b0 b1 fl HSt hG hk
  go_wp2_with (go_at_call 42; go_loud (refine (HIb.out _).mono ?_); rintro e w3 ⟨rfl, rfl⟩)
  go_ret2
  exact ⟨rfl, HK.out⟩
end
def outL (o : ByteArray) (l : List Ent) : ByteArray := l.foldl (fun o e => o ++ (e.1 ++ ⟨#[10]⟩)) o
theorem outL_snoc (o : ByteArray) {l : List Ent} {k : Nat} {x : Ent} (h : l[k]? = some x) : outL o (l.take (k + 1)) = outL o (l.take k) ++ (x.1 ++ ⟨#[10]⟩) := by
 unfold outL
 rw [List.take_add_one, h, List.foldl_append]
 rfl
theorem app_size (a b : ByteArray) : (a ++ b).size = a.size + b.size := by simp
theorem outL_size (l : List Ent) (hl : ∀ e ∈ l, e.1.size <= 255) : ∀ o, (outL o l).size <= o.size + 256 * l.length := by
 induction l with
 | nil => intro o; simp [outL]
 | cons x l ih =>
   intro o
   have h1 := ih (fun e he => hl e (List.mem_cons_of_mem _ he)) (o ++ (x.1 ++ ⟨#[10]⟩))
   have h2 := hl x List.mem_cons_self
   have e : outL o (x :: l) = outL (o ++ (x.1 ++ ⟨#[10]⟩)) l := rfl
   rw [e, List.length_cons]
   rw [app_size, app_size, show (⟨#[10]⟩ : ByteArray).size = 1 from rfl] at h1
   omega
section
variable {W w : World} {Q : Nat -> Prop} {B F a : Nat} {d d' : Nds} {room calls fail at' mask st : Int} {name out err : ByteArray} {iv : Value}
structure LsJ (W : World) (Q : Nat -> Prop) (w0 wr : World) (B F a : Nat) (d : Nds) (room calls fail : Int) (cs : List Value) (v : Value) (es : List Ent) : Prop where
 tw : TW W Q wr B F a d room calls fail cs
 own : Own encEnt 133 (fun g => w0.heap.size <= g) wr v es
 keeps : Keeps (Lw W Q) w0 wr
theorem LsJ.on {w0 wr w' : World} {cs : List Value} {v : Value} {es : List Ent} (h : LsJ W Q w0 wr B F a d room calls fail cs v es) (k : Keeps NoB wr w') : LsJ W Q w0 w' B F a d room calls fail cs v es :=
 ⟨h.tw.on k, h.own.keep k (fun _ _ h => h), h.keeps.step k (fun _ h => h.elim)⟩
theorem LsJ.put {w0 wr : World} {cs : List Value} {v : Value} {es : List Ent} (h : LsJ W Q w0 wr B F a d room calls fail cs v es) (hB : B < w0.heap.size) (i : Nat) (u : Value) : LsJ W Q w0 (wr.setCell ⟨B, i, none⟩ u) B F a d room calls fail (cs.set i u) v es :=
 ⟨h.tw.put i u, h.own.keep (keeps_set wr ⟨B, i, none⟩ u) (fun g hg e => by have := h.own.2 g hg; have e' : g = B := e; omega), h.keeps.step (keeps_set wr ⟨B, i, none⟩ u) (fun g e => .inl (by have e' : g = B := e; subst e'; exact ⟨h.tw.low, h.tw.nQ⟩))⟩
theorem list_plain (h : TW W Q w B F a d room calls fail (wkC name F at' mask iv out err st)) (got s : ByteArray) (hg : bIdx got 108 < 0) (es : List Ent) (hle : lstE d (thrR d at' s true) = 0) (hes : (nd d (thrR d at' s true).1.node).ents = es)
 (each : ∀ e ∈ es, e.1.size <= 255 ∧ 1 <= e.1.size ∧ ¬ e.1.data.toList[0]? = some 46 ∧ statE d (thrR d at' (joinB s e.1) false) = 0) (hn : es.length <= 1000) (hs : s.size <= 1000) (ho : out.size <= 1000) :
 Calls Tryz.prog 78 #[.pointer (some ⟨B, 0, none⟩), .string got, .string s] w fun e w' => e = .returned (.int .i64 0) ∧ TW W Q w' B F a d room calls fail (wkC name F at' mask iv (outL out es) err st) ∧ Keeps (Lw W Q) w w' := by
 have HT := Lib.hid h
 have HLs := Lib.hid (fun (w1 : World) (k : Keeps NoB w w1) => (h.fx.on k).asks fun N hN => fsList_any hN at' mask s (by omega) (nd_ents_len hN.pd.small))
 rw [hle, hes] at HLs
 simp only [if_true] at HLs
 have HEach := Lib.hid each
 have HSz := Lib.hid (fun k => outL_size (es.take k) (fun e he => (each e (List.mem_of_mem_take he)).1) out)
 have hB := h.bx.lt
 clear h hle hes each
 have f0 := HT.out.bx.cell 1 _ rfl
 have b0 := HT.out.bx.cell 2 _ rfl
 have b1 := HT.out.bx.cell 3 _ rfl
 go_enter Tryz.func78, Tryz.ntmps78
 go_upto_region 1 with fail
 go_cut [7, 8] from 13 to 25 (fun x y wx => y = .int .i64 0 ∧ LsJ W Q w wx B F a d room calls fail (wkC name F at' mask iv out err st) x es)
 case first =>
  have kr := Keeps.refl NoB w
  have krd := kr.drew
  have d0 := (HT.out.on krd).bx.cell 1 _ rfl
  have d1 := (HT.out.on krd).bx.cell 2 _ rfl
  have d2 := (HT.out.on krd).bx.cell 3 _ rfl
  go_region_held3 (fun wz => wz.cell? ⟨B, 1, none⟩ = some (.pointer (some ⟨F, 0, none⟩)) ∧ wz.cell? ⟨B, 2, none⟩ = some (.int .i64 at') ∧ wz.cell? ⟨B, 3, none⟩ = some (.int .i64 mask) ∧ Keeps NoB w wz) (refine ⟨?_, ?_, ?_, ?_⟩ <;> first | with_reducible assumption | (with_reducible refine (HT.out.on ?_).bx.cell 1 _ rfl; (repeat (first | with_reducible assumption | (with_reducible exact Keeps.refl _ _) | (with_reducible refine Keeps.drew ?_) | (with_reducible refine Keeps.drewN ?_ _) | (with_reducible refine Keeps.alloc ?_ _) | (with_reducible refine Keeps.setCell ?_ (by first | exact Or.inl rfl | exact Or.inr (Nat.le_refl _) | exact Or.inr (by first | (simp; done) | (simp; omega))) _))); done) | (with_reducible refine (HT.out.on ?_).bx.cell 2 _ rfl; (repeat (first | with_reducible assumption | (with_reducible exact Keeps.refl _ _) | (with_reducible refine Keeps.drew ?_) | (with_reducible refine Keeps.drewN ?_ _) | (with_reducible refine Keeps.alloc ?_ _) | (with_reducible refine Keeps.setCell ?_ (by first | exact Or.inl rfl | exact Or.inr (Nat.le_refl _) | exact Or.inr (by first | (simp; done) | (simp; omega))) _))); done) | (with_reducible refine (HT.out.on ?_).bx.cell 3 _ rfl; (repeat (first | with_reducible assumption | (with_reducible exact Keeps.refl _ _) | (with_reducible refine Keeps.drew ?_) | (with_reducible refine Keeps.drewN ?_ _) | (with_reducible refine Keeps.alloc ?_ _) | (with_reducible refine Keeps.setCell ?_ (by first | exact Or.inl rfl | exact Or.inr (Nat.le_refl _) | exact Or.inr (by first | (simp; done) | (simp; omega))) _))); done) | ((repeat (first | with_reducible assumption | (with_reducible exact Keeps.refl _ _) | (with_reducible refine Keeps.drew ?_) | (with_reducible refine Keeps.drewN ?_ _) | (with_reducible refine Keeps.alloc ?_ _) | (with_reducible refine Keeps.setCell ?_ (by first | exact Or.inl rfl | exact Or.inr (Nat.le_refl _) | exact Or.inr (by first | (simp; done) | (simp; omega))) _))); done))
   (first | (go_at_call 104; refine (HLs.out _ (by (repeat (first | with_reducible assumption | (with_reducible exact Keeps.refl _ _) | (with_reducible refine Keeps.drew ?_) | (with_reducible refine Keeps.drewN ?_ _) | (with_reducible refine Keeps.alloc ?_ _) | (with_reducible refine Keeps.setCell ?_ (by first | exact Or.inl rfl | exact Or.inr (Nat.le_refl _) | exact Or.inr (by first | (simp; done) | (simp; omega))) _))))).mono ?_; rintro e w2 ⟨v, rfl, ho2, hk2⟩; have zky : Keeps NoB w w2 := Keeps.trans (by (repeat (first | with_reducible assumption | (with_reducible exact Keeps.refl _ _) | (with_reducible refine Keeps.drew ?_) | (with_reducible refine Keeps.drewN ?_ _) | (with_reducible refine Keeps.alloc ?_ _) | (with_reducible refine Keeps.setCell ?_ (by first | exact Or.inl rfl | exact Or.inr (Nat.le_refl _) | exact Or.inr (by first | (simp; done) | (simp; omega))) _)))) hk2; have z0 := (HT.out.on zky).bx.cell 1 _ rfl; have z1 := (HT.out.on zky).bx.cell 2 _ rfl; have z2 := (HT.out.on zky).bx.cell 3 _ rfl))
  all_goals (go_wp2_with fail; go_meet; refine ⟨rfl, HT.out.on zky, ho2.mono (fun g _ hg => hg), zky.of_none⟩)
 case rest =>
  obtain ⟨rfl, hJ⟩ := hcut
  clear f0 b0 b1 HLs
  obtain ⟨vp, vc, rfl, _⟩ := hJ.own.sl
  have HJ0 := Lib.hid hJ
  clear hJ
  go_wp2_with fail
  go_loopw [28] (fun i wr => ∃ k : Nat, k <= es.length ∧ i = .int .i64 k ∧ LsJ W Q w wr B F a d room calls fail (wkC name F at' mask iv (outL out (es.take k)) err st) (.slice vp es.length vc) es) (fun i _ => es.length + 1 - (intOf i).toNat)
  case atStart => exact ⟨0, Nat.zero_le _, rfl, HJ0.out⟩
  case round =>
   obtain ⟨k, hk, rfl, hJ⟩ := hrel
   have HJ := Lib.hid hJ
   clear hJ HJ0
   by_cases hlt : k < es.length
   case neg =>
    obtain rfl : k = es.length := by omega
    go_wp2_with fail
    go_ret
    refine ⟨rfl, ?_, HJ.out.keeps⟩
    have := HJ.out.tw
    rw [List.take_length] at this
    exact this
   obtain ⟨x, hx⟩ : ∃ x, es[k]? = some x := ⟨_, List.getElem?_eq_getElem hlt⟩
   obtain ⟨hx1, hx2, hx3, hx4⟩ := HEach.out x (List.mem_of_getElem? hx)
   have hb : ((x.1[0].toNat : Int) == 46) = false := by
    rw [byte_eq _ _ (by decide) (by decide), decide_eq_false_iff_not]
    intro e
    refine hx3 ?_
    rw [List.getElem?_eq_getElem (by rw [len_data]; omega)]
    exact congrArg some e
   obtain ⟨vg, vo, hvp, _, _, c0, c1⟩ := (HJ.out.own.at).ent hx
   subst hvp
   have hcp := (HJ.out.own.at).cap
   have hmx := (HJ.out.own.at).max
   unfold maxLen at hmx
   have HS := Lib.hid (outL_snoc out hx)
   have hsz := HSz.out k
   have htk : (es.take k).length <= 1000 := by rw [List.length_take]; omega
   obtain ⟨o, hoo⟩ : ∃ o, outL out (es.take k) = o := ⟨_, rfl⟩
   rw [hoo] at HJ HS hsz
   obtain ⟨X, hX⟩ : ∃ X, thrR d at' (joinB s x.1) false = X := ⟨_, rfl⟩
   obtain ⟨ik, im, il, ih, iz, hV⟩ : ∃ ik im il ih iz : Int, statV d X = .agg #[.int .i64 ik, .int .i64 im, .int .i64 il, .int .i64 ih, .int .i64 iz] := by
    obtain ⟨N, _, _, hN⟩ := HJ.out.tw.fx.ex
    obtain ⟨k, m, l, hh, z, h, _⟩ := statV_shape hN X
    exact ⟨k, m, l, hh, z, h⟩
   have hjz := joinB_size s x.1
   have HLn := Lib.hid (fun (w1 : World) (k : Keeps NoB wr w1) => line_plain (HJ.out.tw.on k) got (joinB s x.1) x.1 (by omega) (by omega) hg rfl (by rw [hX]; exact hV) (by rw [hX, <- hX]; exact hx4))
   have HJn := Lib.hid (fun w1 : World => join_any s x.1 w1 (by omega) (by omega))
   obtain ⟨jn, hjn⟩ : ∃ jn, joinB s x.1 = jn := ⟨_, rfl⟩
   rw [hjn] at HLn HJn
   obtain ⟨xn, xi⟩ := x
   simp only at c0 c1 HLn HJn HS hx1 hx2 hb
   clear hx hx3 hx4 hV hX hoo hjn hjz
   have HXz : Hid (xn.size <= 255 ∧ o.size <= 300000) := ⟨hx1, by omega⟩
   go_upto_region 6 with fail
   have HE := Lib.hid (Bx.new (Keeps.refl NoB (wr.alloc (.cells #[.string xn, .int .i64 xi] 133))))
   have HKe := Lib.hid ((Keeps.refl NoB wr).alloc (.cells #[.string xn, .int .i64 xi] 133))
   generalize wr.alloc (.cells #[.string xn, .int .i64 xi] 133) = wa at *
   generalize wr.heap.size = EB at *
   have e0 := HE.out.cell 0 _ rfl
   go_cut [11, 12] from 41 to 52 (fun x y wx => x = .string (xn ++ ⟨#[10]⟩) ∧ y = .int .i64 0 ∧ Keeps NoB wa wx)
   case first =>
    have d0 := (HE.out.on (Keeps.refl NoB wa).drew).cell 0 _ rfl
    go_region_held3 (fun wz => wz.cell? ⟨EB, 0, none⟩ = some (.string xn) ∧ Keeps NoB wa wz) (refine ⟨?_, ?_⟩ <;> first | with_reducible assumption | (with_reducible refine (HE.out.on ?_).cell 0 _ rfl; (repeat (first | with_reducible assumption | (with_reducible exact Keeps.refl _ _) | (with_reducible refine Keeps.drew ?_) | (with_reducible refine Keeps.drewN ?_ _) | (with_reducible refine Keeps.alloc ?_ _) | (with_reducible refine Keeps.setCell ?_ (by first | exact Or.inl rfl | exact Or.inr (Nat.le_refl _) | exact Or.inr (by first | (simp; done) | (simp; omega))) _))); done) | ((repeat (first | with_reducible assumption | (with_reducible exact Keeps.refl _ _) | (with_reducible refine Keeps.drew ?_) | (with_reducible refine Keeps.drewN ?_ _) | (with_reducible refine Keeps.alloc ?_ _) | (with_reducible refine Keeps.setCell ?_ (by first | exact Or.inl rfl | exact Or.inr (Nat.le_refl _) | exact Or.inr (by first | (simp; done) | (simp; omega))) _))); done))
     (first | (go_at_call 71; refine (HJn.out _).mono ?_; rintro e w2 ⟨rfl, hw2⟩; obtain rfl : _ = w2 := hw2.symm) | (go_at_call 77; refine (HLn.out _ (HKe.out.trans (by (repeat (first | with_reducible assumption | (with_reducible exact Keeps.refl _ _) | (with_reducible refine Keeps.drew ?_) | (with_reducible refine Keeps.drewN ?_ _) | (with_reducible refine Keeps.alloc ?_ _) | (with_reducible refine Keeps.setCell ?_ (by first | exact Or.inl rfl | exact Or.inr (Nat.le_refl _) | exact Or.inr (by first | (simp; done) | (simp; omega))) _)))))).mono ?_; rintro e w2 ⟨rfl, hk2⟩; have zky : Keeps NoB wa w2 := Keeps.trans (by (repeat (first | with_reducible assumption | (with_reducible exact Keeps.refl _ _) | (with_reducible refine Keeps.drew ?_) | (with_reducible refine Keeps.drewN ?_ _) | (with_reducible refine Keeps.alloc ?_ _) | (with_reducible refine Keeps.setCell ?_ (by first | exact Or.inl rfl | exact Or.inr (Nat.le_refl _) | exact Or.inr (by first | (simp; done) | (simp; omega))) _)))) hk2; have z0 := (HE.out.on zky).cell 0 _ rfl))
    all_goals (go_wp2_with fail; go_meet; exact ⟨rfl, rfl, zky⟩)
   case rest =>
    obtain ⟨rfl, rfl, hk2⟩ := hcut
    have HJ2 := Lib.hid (HJ.out.on (HKe.out.trans hk2))
    have hsum : (xn ++ ⟨#[10]⟩ : ByteArray).size <= 256 := by rw [app_size, show (⟨#[10]⟩ : ByteArray).size = 1 from rfl]; omega
    have HEq := Lib.hid (show outL out (es.take (k + 1)) = o ++ (xn ++ ⟨#[10]⟩) from HS.out)
    obtain ⟨ln, hln⟩ : ∃ ln, (xn ++ ⟨#[10]⟩ : ByteArray) = ln := ⟨_, rfl⟩
    rw [hln] at hsum HEq ⊢
    clear hln c0 c1 e0 hk2 HJ HKe HE HLn HJn HS
    have a5 := HJ2.out.tw.bx.cell 5 _ rfl
    have af := HJ2.out.tw.bx.fz 5
    have al := HJ2.out.tw.bx.lt
    have hoz : o.size <= 300000 := by omega
    go_wp2_with fail
    go_roundw
    case rel =>
     refine ⟨k + 1, by omega, by go_num, ?_⟩
     rw [HEq.out]
     exact HJ2.out.put hB 5 (.string (o ++ ln))
    case measure => simp [intOf]; omega
end
section
variable {W w : World} {Q : Nat -> Prop} {B F a : Nat} {d d' : Nds} {room calls fail at' mask st : Int} {name out err : ByteArray} {iv : Value}
theorem ls_dir {S : Nat -> Prop} {p : Option Addr} {c : Nat} {s : ByteArray} (h : TW W Q w B F a d room calls fail (wkC name F at' mask iv out err st)) (hA : SlAt encStr S w p c [s]) (hf : noFlag s = true) (es : List Ent) (hle : lstE d (thrR d at' s true) = 0) (hes : (nd d (thrR d at' s true).1.node).ents = es)
 {n im il ih iz : Int} (hn : (thrR d at' s false).1.node = n) (hV : statV d (thrR d at' s false) = .agg #[.int .i64 2, .int .i64 im, .int .i64 il, .int .i64 ih, .int .i64 iz]) (hE : statE d (thrR d at' s false) = 0)
 (each : ∀ e ∈ es, e.1.size <= 255 ∧ 1 <= e.1.size ∧ ¬ e.1.data.toList[0]? = some 46 ∧ statE d (thrR d at' (joinB s e.1) false) = 0) (hl : es.length <= 1000) (hs : s.size <= 1000) (ho : out.size <= 1000) :
 Calls Tryz.prog 35 #[.pointer (some ⟨B, 0, none⟩), .slice p 1 c] w fun e w' => e = .returned (.tuple #[]) ∧ TW W Q w' B F a d room calls fail (wkC name F at' mask iv (outL out es) err st) ∧ Keeps (Lw W Q) w w' := by
 have HT := Lib.hid h
 have HV := Lib.hid hV
 have HE := Lib.hid hE
 have HF := Lib.hid (flags_none hA ⟨#[97, 108, 100, 49]⟩ (fun x hx => by cases hx; exact hf))
 have hsz : s.size <= 4294967280 := by omega
 have HSz := Lib.hid hsz
 have HIb := Lib.hid (fun wx => ib_any ⟨#[]⟩ 100 wx)
 rw [show bIdx (⟨#[]⟩ : ByteArray) ((100 : Int)).toNat.toUInt8 = -1 by decide] at HIb
 have HL := Lib.hid (fun (w1 : World) (k : Keeps NoB w w1) => list_plain (h.on k) ⟨#[]⟩ s (by decide) es hle hes each hl hs ho)
 have HWr := Lib.hid (fun w1 : World => wrong_ok (B := B) 1 w1)
 obtain ⟨g, o, rfl, hS0, hg0, t0⟩ := hA.str (i := 0) (x := s) rfl
 have hcp := hA.cap
 have hcm := hA.max
 unfold maxLen at hcm
 have a0 : w.cell? ⟨g, o, none⟩ = some (.string s) := t0
 clear h hA hf hle hes hV hE each t0
 go_enter Tryz.func35, Tryz.ntmps35
 go_upto_region 6 with (go_at_call 65; go_loud (refine HF.out.mono ?_); rintro e w1 ⟨rfl, rfl⟩)
 clear a0
 have HSt := Lib.hid (fun (w1 : World) (k : Keeps NoB w w1) => (HT.out.fx.on k).asks fun N hN => stat_any hN at' mask s false HSz.out)
 rw [HV.out, HE.out, hn] at HSt
 clear hn
 have f0 := HT.out.bx.cell 1 _ rfl
 have b0 := HT.out.bx.cell 2 _ rfl
 have b1 := HT.out.bx.cell 3 _ rfl
 have fl := HT.out.bx.lt
 go_upto_region 6 with fail
 go_cut [7, 8, 9] from 31 to 44 (fun x y z wx => ∃ G : Nat, w.heap.size <= G ∧ x = .int .i64 n ∧ y = .pointer (some ⟨G, 0, none⟩) ∧ z = .int .i64 0 ∧ Bx wx G [.int .i64 2, .int .i64 im, .int .i64 il, .int .i64 ih, .int .i64 iz] ∧ Keeps NoB w wx)
 case first =>
  have kr := Keeps.refl NoB w
  have krd := kr.drew
  have d0 := (HT.out.on krd).bx.cell 1 _ rfl
  have d1 := (HT.out.on krd).bx.cell 2 _ rfl
  have d2 := (HT.out.on krd).bx.cell 3 _ rfl
  go_region_held3 (fun wz => wz.cell? ⟨B, 1, none⟩ = some (.pointer (some ⟨F, 0, none⟩)) ∧ wz.cell? ⟨B, 2, none⟩ = some (.int .i64 at') ∧ wz.cell? ⟨B, 3, none⟩ = some (.int .i64 mask) ∧ Keeps NoB w wz) (refine ⟨?_, ?_, ?_, ?_⟩ <;> first | with_reducible assumption | (with_reducible refine (HT.out.on ?_).bx.cell 1 _ rfl; (repeat (first | with_reducible assumption | (with_reducible exact Keeps.refl _ _) | (with_reducible refine Keeps.drew ?_) | (with_reducible refine Keeps.drewN ?_ _) | (with_reducible refine Keeps.alloc ?_ _) | (with_reducible refine Keeps.setCell ?_ (by first | exact Or.inl rfl | exact Or.inr (Nat.le_refl _) | exact Or.inr (by first | (simp; done) | (simp; omega))) _))); done) | (with_reducible refine (HT.out.on ?_).bx.cell 2 _ rfl; (repeat (first | with_reducible assumption | (with_reducible exact Keeps.refl _ _) | (with_reducible refine Keeps.drew ?_) | (with_reducible refine Keeps.drewN ?_ _) | (with_reducible refine Keeps.alloc ?_ _) | (with_reducible refine Keeps.setCell ?_ (by first | exact Or.inl rfl | exact Or.inr (Nat.le_refl _) | exact Or.inr (by first | (simp; done) | (simp; omega))) _))); done) | (with_reducible refine (HT.out.on ?_).bx.cell 3 _ rfl; (repeat (first | with_reducible assumption | (with_reducible exact Keeps.refl _ _) | (with_reducible refine Keeps.drew ?_) | (with_reducible refine Keeps.drewN ?_ _) | (with_reducible refine Keeps.alloc ?_ _) | (with_reducible refine Keeps.setCell ?_ (by first | exact Or.inl rfl | exact Or.inr (Nat.le_refl _) | exact Or.inr (by first | (simp; done) | (simp; omega))) _))); done) | ((repeat (first | with_reducible assumption | (with_reducible exact Keeps.refl _ _) | (with_reducible refine Keeps.drew ?_) | (with_reducible refine Keeps.drewN ?_ _) | (with_reducible refine Keeps.alloc ?_ _) | (with_reducible refine Keeps.setCell ?_ (by first | exact Or.inl rfl | exact Or.inr (Nat.le_refl _) | exact Or.inr (by first | (simp; done) | (simp; omega))) _))); done))
   (first | (go_at_call 12; refine (HSt.out _ (by (repeat (first | with_reducible assumption | (with_reducible exact Keeps.refl _ _) | (with_reducible refine Keeps.drew ?_) | (with_reducible refine Keeps.drewN ?_ _) | (with_reducible refine Keeps.alloc ?_ _) | (with_reducible refine Keeps.setCell ?_ (by first | exact Or.inl rfl | exact Or.inr (Nat.le_refl _) | exact Or.inr (by first | (simp; done) | (simp; omega))) _))))).mono ?_; rintro e w2 ⟨rfl, hk2⟩; have zky : Keeps NoB w w2 := Keeps.trans (by (repeat (first | with_reducible assumption | (with_reducible exact Keeps.refl _ _) | (with_reducible refine Keeps.drew ?_) | (with_reducible refine Keeps.drewN ?_ _) | (with_reducible refine Keeps.alloc ?_ _) | (with_reducible refine Keeps.setCell ?_ (by first | exact Or.inl rfl | exact Or.inr (Nat.le_refl _) | exact Or.inr (by first | (simp; done) | (simp; omega))) _)))) hk2; have zs := zky.size; have z0 := (HT.out.on zky).bx.cell 1 _ rfl; have z1 := (HT.out.on zky).bx.cell 2 _ rfl; have z2 := (HT.out.on zky).bx.cell 3 _ rfl; (try (have yb := Bx.newD hk2; have y0 := yb.cell 0 _ rfl; have y1 := yb.cell 1 _ rfl; have y2 := yb.cell 2 _ rfl; have y3 := yb.cell 3 _ rfl; have y4 := yb.cell 4 _ rfl; have yf := yb.fz))))
  all_goals (go_wp2_with fail; go_meet; refine ⟨_, ?_, rfl, rfl, rfl, ?_, ?_⟩)
  all_goals first
   | exact Nat.le_refl _
   | exact zs
   | (with_reducible exact Bx.new (Keeps.refl NoB _))
   | (exact ((((yb.put 0 _).put 1 _).put 2 _).put 3 _).put 4 _)
   | ((repeat (first | with_reducible assumption | (with_reducible exact Keeps.refl _ _) | (with_reducible refine Keeps.drew ?_) | (with_reducible refine Keeps.drewN ?_ _) | (with_reducible refine Keeps.alloc ?_ _) | (with_reducible refine Keeps.setCell ?_ (by first | exact Or.inl rfl | exact Or.inr (Nat.le_refl _) | exact Or.inr (by first | (simp; done) | (simp; omega))) _))); done)
   | skip
 case rest =>
  obtain ⟨HIB, hG, rfl, rfl, rfl, HI, hk⟩ := hcut
  replace HI := Lib.hid HI
  have HK := Lib.hid hk
  have HG := Lib.hid hG
  replace HT := Lib.hid (HT.out.on hk)
  clear f0 b0 b1 fl HSt hG hk
  have i0 := HI.out.cell 0 _ rfl
  go_wp2_with (first | (go_at_call 42; go_loud (refine (HIb.out _).mono ?_); rintro e w3 ⟨rfl, rfl⟩) | (go_at_call 78; go_loud (refine (HL.out _ HK.out).mono ?_); rintro e w4 ⟨rfl, ht4, hk4⟩) | (go_at_call 30; go_loud (refine (HWr.out _).mono ?_); rintro e w5 ⟨rfl, rfl⟩))
  go_end0
  exact ⟨rfl, ht4, HK.out.of_none.trans hk4⟩
end
set_option maxHeartbeats 4000000
section
variable {N : Nat -> Prop} {w w' : World} {F a : Nat} {d d' : Nds} {room calls fail : Int}
theorem mkdir_any (h : FSt N w F a d room calls fail) (hc0 : 0 <= calls) (hc1 : calls <= 4611686018427387904) (hb : mass d + 3 <= 2147483648) (at' mask : Int) (s : ByteArray) (m : Int) (hsz : s.size <= 4294967280) :
 Calls Tryz.prog 15 #[.pointer (some ⟨F, 0, none⟩), .agg #[.int .i64 at', .int .i64 mask], .string s, .int .i64 m] w
  (FTo N w F a (orFail calls fail d (mkdirR d room at' mask s m)).1 room (calls + 1) fail (.int .i64 (orFail calls fail d (mkdirR d room at' mask s m)).2)) := by
 have kz0 : Keeps NoB w (w.alloc (.cells #[.int .i64 at', .int .i64 mask] 28)) := (Keeps.refl _ _).alloc _
 obtain ⟨N1, hsub, hnew, FS⟩ := h.wider kz0
 have HW := Lib.hid (Bx.new (Keeps.refl NoB (w.alloc (.cells #[.int .i64 at', .int .i64 mask] 28))))
 have HNW := Lib.hid (hnew w.heap.size (Nat.le_refl _) (by simp))
 have HK := Lib.hid (kz0.of_none (F := fun g => ¬ N g))
 have HSub := Lib.hid hsub
 clear hsub hnew h kz0
 have HC := Lib.hid (call_any FS hc0 hc1)
 obtain ⟨ce, hce⟩ : ∃ ce, callE calls fail = ce := ⟨_, rfl⟩
 obtain ⟨O, hO⟩ : ∃ O, orFail calls fail d (mkdirR d room at' mask s m) = O := ⟨_, rfl⟩
 have HOF := Lib.hid (show O = if ce ≠ 0 then (d, ce) else mkdirR d room at' mask s m by rw [<- hO]; unfold orFail; rw [hce])
 rw [hO]
 clear hO
 rw [hce] at HC
 clear hce FS hc0 hc1
 go_enter Tryz.func15, Tryz.ntmps15
 go_upto_region 1 with fail
 generalize w.alloc (.cells #[.int .i64 at', .int .i64 mask] 28) = w0 at *
 generalize w.heap.size = W at *
 go_upto_region 2 with (go_at_call 20; go_loud (refine HC.out.mono ?_); rintro e wc ⟨rfl, FS, k1⟩; replace HW := Lib.hid (HW.out.keep k1 (fun hh => hh HNW.out)); replace HK := Lib.hid (HK.out.trans (k1.mono (fun g _ hg hN => hg (HSub.out g hN)))))
 have HFS := Lib.hid FS
 clear HC k1 FS
 by_cases hz : ce ≠ 0
 ·have hb : (ce != 0) = true := by simpa using hz
  rw [if_pos hz] at HOF
  clear hz
  go_wp2_with fail
  go_ret
  exact ⟨ret_i64 (by rw [HOF.out]), (by rw [HOF.out]; exact HFS.out.less HSub.out), HK.out⟩
 rw [if_neg hz] at HOF
 obtain rfl : ce = 0 := Classical.not_not.1 hz
 clear hz
 have b0 := HW.out.cell 0 _ rfl
 have b1 := HW.out.cell 1 _ rfl
 have f0 := HFS.out.c0
 obtain ⟨X, hX⟩ : ∃ X, freeR d at' s true = X := ⟨_, rfl⟩
 have HFr := Lib.hid (free_any HFS.out at' mask s true hsz)
 have HQ := Lib.hid (show mkdirR d room at' mask s m = if X.2 ≠ 0 then (d, X.2) else madeR d room X.1 2 (freshM m mask) ⟨#[]⟩ by unfold mkdirR; rw [hX])
 rw [hX] at HFr
 obtain ⟨⟨node, dir, name⟩, fe⟩ := X
 unfold plcV at HFr
 simp only at HFr HQ
 have HX := Lib.hid hX
 clear hX hsz
 go_upto_region 5 with (go_at_call 38; go_loud (refine HFr.out.mono ?_); rintro e w2 ⟨rfl, k2⟩)
 have KP := Lib.hid (Bx.new (Keeps.refl NoB (w2.alloc (.cells #[.int .i64 node, .int .i64 dir, .string name] 60))))
 have k3 : Keeps NoB wc (w2.alloc (.cells #[.int .i64 node, .int .i64 dir, .string name] 60)) := k2.alloc _
 obtain ⟨N2, hsub, hnew, FS⟩ := HFS.out.wider k3
 have HNP := Lib.hid (hnew w2.heap.size k2.size (by simp))
 replace HW := Lib.hid (HW.out.on k3)
 replace HK := Lib.hid (HK.out.trans k3.of_none)
 replace HSub := Lib.hid (fun g hg => hsub g (HSub.out g hg))
 replace HNW := Lib.hid (hsub _ HNW.out)
 clear b0 b1 f0 HFr k2 k3 hsub hnew HFS
 generalize w2.alloc (.cells #[.int .i64 node, .int .i64 dir, .string name] 60) = w3 at *
 generalize w2.heap.size = PB at *
 have HFS := Lib.hid FS
 clear FS
 by_cases hz : fe ≠ 0
 ·have hb : (fe != 0) = true := by simpa using hz
  rw [HQ.out, if_pos hz] at HOF
  clear hz
  go_wp2_with fail
  go_ret
  exact ⟨ret_i64 (by rw [HOF.out]), (by rw [HOF.out]; exact HFS.out.less HSub.out), HK.out⟩
 rw [HQ.out, if_neg hz] at HOF
 obtain rfl : fe = 0 := Classical.not_not.1 hz
 clear hz
 have f0 := HFS.out.c0
 have b1 := HW.out.cell 1 _ rfl
 go_upto_region 7 with fail
 have HMk := Lib.hid ((HFS.out.on (Keeps.refl NoB w3).drew).prog2 fun R hR => makeD_any hR 2 (freshM m mask) ⟨#[]⟩ (by omega) (by decide))
 have hQ2 := Lib.hid (show madeR d room ⟨0, dir, name⟩ 2 (freshM m mask) ⟨#[]⟩ = madeR d room ⟨0, dir, name⟩ 2 (freshM m mask) ⟨#[]⟩ from rfl)
 go_cut [12, 11] from 11 to 39 (fun x y wx => x = .int .i64 (makeId d room 2 (freshM m mask) ⟨#[]⟩) ∧ y = .int .i64 (makeErr d room 2 (freshM m mask) ⟨#[]⟩) ∧ FSt N2 wx F a (makeTo d room 2 (freshM m mask) ⟨#[]⟩) room (calls + 1) fail ∧ Keeps (fun g => ¬ N2 g) w3 wx)
 case first =>
  generalize makeId d room 2 (freshM m mask) ⟨#[]⟩ = mi at *
  generalize makeErr d room 2 (freshM m mask) ⟨#[]⟩ = me at *
  generalize makeTo d room 2 (freshM m mask) ⟨#[]⟩ = mt at *
  have d0 := (HFS.out.on (Keeps.refl NoB w3).drew).c0
  have d1 := (HW.out.on (Keeps.refl NoB w3).drew).cell 1 _ rfl
  go_region_held3 (fun wz => wz.cell? ⟨F, 0, none⟩ = some (.pointer (some ⟨a, 0, none⟩)) ∧ wz.cell? ⟨W, 1, none⟩ = some (.int .i64 mask)) (refine ⟨?_, ?_⟩ <;> with_reducible assumption)
   (first | (go_at_call 40; refine (fresh_any _ _ _).mono ?_; rintro e wq ⟨rfl, rfl⟩) | (go_at_call 39; refine HMk.out.mono ?_; rintro e w4 ⟨rfl, FS4, k4⟩; have z0 := FS4.c0; have z1 := ((HW.out.on (Keeps.refl NoB w3).drew).keep k4 (fun hh => hh HNW.out)).cell 1 _ rfl))
  all_goals (go_wp2_with fail; go_meet; exact ⟨rfl, rfl, FS4, (Keeps.refl _ _).drew.trans k4⟩)
 case rest =>
  obtain ⟨rfl, rfl, FS, k4⟩ := hcut
  replace HK := Lib.hid (HK.out.trans (k4.mono (fun g _ hg hN => hg (HSub.out g hN))))
  have HP := Lib.hid (KP.out.keep k4 (fun hh => hh HNP.out))
  clear f0 b1 KP HW HFS HMk k4
  obtain ⟨me, hme⟩ : ∃ me, makeErr d room 2 (freshM m mask) ⟨#[]⟩ = me := ⟨_, rfl⟩
  by_cases hz : makeErr d room 2 (freshM m mask) ⟨#[]⟩ ≠ 0
  ·have ht : makeTo d room 2 (freshM m mask) ⟨#[]⟩ = d := by unfold makeTo; rw [if_neg hz]
   have HQ2 := Lib.hid (show O = (d, me) by rw [HOF.out]; unfold madeR; rw [if_pos hz, hme])
   rw [ht] at FS
   have HFS := Lib.hid FS
   rw [hme] at hz
   rw [hme]
   have hb : (me != 0) = true := by simpa using hz
   clear FS hme hz
   go_wp2_with fail
   go_ret
   exact ⟨ret_i64 (by rw [HQ2.out]), (by rw [HQ2.out]; exact HFS.out.less HSub.out), HK.out⟩
  have h0 : makeErr d room 2 (freshM m mask) ⟨#[]⟩ = 0 := Classical.not_not.1 hz
  obtain ⟨e1, e2⟩ := makeTo_ok h0
  obtain ⟨x1, x2, _⟩ := freeR_ok HX.out
  have HQ2 := Lib.hid (show O = entrR (d ++ [newNd 2 (freshM m mask) ⟨#[]⟩]) room ⟨node, dir, name⟩ d.length by rw [HOF.out]; unfold madeR; rw [if_neg hz])
  rw [e1] at FS
  rw [e2, h0]
  have HEn := Lib.hid (enter_anyF FS ⟨node, dir, name⟩ d.length (by rw [mass_made]; omega) (Nat.le_trans x2 (by decide)) (fun _ _ => made_above x1))
  rw [<- HQ2.out] at HEn
  unfold plcV at HEn
  simp only at HEn
  have p0 := HP.out.cell 0 _ rfl
  have p1 := HP.out.cell 1 _ rfl
  have p2 := HP.out.cell 2 _ rfl
  generalize (d.length : Int) = id at *
  clear FS hz h0 e1 e2 x1 x2 hme HQ HX HQ2 HP
  go_wp2_with (go_at_call 41; go_loud (refine HEn.out.mono ?_); rintro e w5 ⟨rfl, FS5, k5⟩)
  go_ret
  exact ⟨rfl, FS5.less HSub.out, HK.out.trans (k5.mono (fun g _ hg hN => hg (HSub.out g hN)))⟩
end
end Go.Proofs.YtimidmogcbapnaaGreatDoor
