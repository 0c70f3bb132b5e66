/-
  Layer 7, plain: what tables hold behind a put; writing into the one file. No program in sight.
-/
import Derived.Test.YtbmalnllppamdaaGreatDoorC10
import Derived.Test.YtbmalnllppamdaaGreatDoorC08

set_option linter.unusedSimpArgs false
set_option linter.unusedVariables false

set_option maxRecDepth 100000
namespace Go.Proofs.YtbmalnllppamdaaGreatDoor

/-- The uses stay small. -/
def UB (Z : FdZ) (K : Int) : Prop := ∀ b o, Z.op b = some o → -K ≤ o.uses ∧ o.uses ≤ K

theorem putZ_free {Z : FdZ} {d : Nds} {T : Nat} {n : Int} {b : Nat} {o : Opn} (hk : kvG (Z.kv T) n = none) (hb : Z.op b = some o) :
    putZ Z T n b = (Z.setOp b (o.use 1)).setKv T (Z.kv T ++ [(n, b)]) ∧ putF Z d T n b = d := by
  have eU : useZ Z b 1 = Z.setOp b (o.use 1) := by unfold useZ; rw [hb]
  have eD : dropZ (Z.setOp b (o.use 1)) T n = Z.setOp b (o.use 1) := by unfold dropZ; rw [show (Z.setOp b (o.use 1)).kv T = Z.kv T from rfl, hk]
  have eF : dropF (Z.setOp b (o.use 1)) d T n = d := by unfold dropF; rw [show (Z.setOp b (o.use 1)).kv T = Z.kv T from rfl, hk]
  unfold putZ putF
  rw [eU, eD, eF]
  exact ⟨rfl, rfl⟩

theorem UB.setOp {Z : FdZ} {K : Int} (h : UB Z K) {b : Nat} {o : Opn} (ho : -K ≤ o.uses ∧ o.uses ≤ K) : UB (Z.setOp b o) K := fun c oc hc => by
  by_cases e : c = b
  · simp only [FdZ.setOp, if_pos e, Option.some.injEq] at hc
    rw [← hc]; exact ho
  · exact h c oc (by simpa only [FdZ.setOp, if_neg e] using hc)
theorem UB.more {Z : FdZ} {K L : Int} (h : UB Z K) (hl : K ≤ L) : UB Z L := fun c oc hc => by have := h c oc hc; omega

theorem kvG_snoc (l : List (Int × Nat)) (n m : Int) (b : Nat) : kvG (l ++ [(n, b)]) m = match kvG l m with | some c => some c | none => if n = m then some b else none := by
  unfold kvG
  rw [List.find?_append]
  cases h : l.find? (fun x => decide (x.1 = m)) with
  | some x => simp
  | none =>
    by_cases e : n = m
    · simp [e]
    · simp [e]

section
variable {d d' : Nds} {k : Int} {es : List Ent} {mode holds : Int} {data : ByteArray} {room : Int}

/-- The file behind a write. -/
def wrD (data : ByteArray) (x : Nat) (s : ByteArray) : ByteArray := over (data ++ noughts (max data.size (x + s.size) - data.size)) x s

theorem one_writeG (h : One d k es mode holds data) (x : Nat) (s : ByteArray) (hs : s.size ≠ 0) (hx : x + s.size ≤ 4194304) (hr : (entSize es : Int) + max data.size (x + s.size) ≤ room) :
    writeErr d room k x s = 0 ∧ One (writeTo d room k x s) k es mode holds (wrD data x s) := by
  have hk := h.k1
  have hh : has d k := by unfold has; rw [h.file]; simp
  have hrg := has_range hh
  have hf : fileErr d k = 0 := by unfold fileErr; rw [h.file]; rfl
  have hu := h.used
  have he : writeErr d room k x s = 0 := by
    unfold writeErr
    rw [if_neg (by rw [hf]; simp), if_neg (by omega), if_neg hs, if_neg (by omega), if_neg (by omega), if_neg]
    unfold endOf
    rw [h.file]
    simp only [Int.toNat_natCast]
    rw [hu]
    omega
  refine ⟨he, ?_⟩
  unfold writeTo
  rw [if_pos ⟨he, hs⟩]
  have hw : writeNd (nd d k) (x : Int).toNat s = ⟨1, mode, holds, wrD data x s, []⟩ := by
    unfold writeNd wrD
    rw [h.file]
    rfl
  rw [hw]
  refine ⟨?_, ?_, fun j j1 jk => ?_, hk, h.kids, h.holds0⟩
  · rw [nd_upd hrg.1 hrg.2, if_neg (by omega), h.root]
  · rw [nd_upd hrg.1 hrg.2, if_pos rfl]
  · rw [nd_upd hrg.1 hrg.2, if_neg jk, h.rest j j1 jk]

theorem one_read (h : One d k es mode holds data) (x y : Nat) : readOf d k x y = cut data x y ∧ readErr d k x y = 0 := by
  have hda : dataOf d k = data := by unfold dataOf; rw [h.file]; rfl
  have hde : dataErr d k = 0 := by unfold dataErr; rw [h.file]; rfl
  have he : readErr d k x y = 0 := by
    unfold readErr
    rw [hde, if_neg (by simp), if_neg (by omega), if_neg (by omega)]
  unfold readOf
  rw [he, if_pos rfl, hda]
  exact ⟨rfl, rfl⟩
end

/-- A table whose numbers are those of l; something open. -/
structure TS (Z : FdZ) (T M : Nat) (l : List (Int × Nat)) (b : Nat) (o : Opn) (K : Int) : Prop where
  tm : Z.tm T = some M
  kv : Z.kv T = l
  op : Z.op b = some o
  ub : UB Z K

section
variable {Z : FdZ} {T M b : Nat} {l : List (Int × Nat)} {o : Opn} {K : Int}
theorem TS.put (h : TS Z T M l b o K) {n : Int} (hk : kvG l n = none) (ho : -K ≤ o.uses + 1 ∧ o.uses + 1 ≤ K) (d : Nds) : TS (putZ Z T n b) T M (l ++ [(n, b)]) b (o.use 1) K ∧ putF Z d T n b = d := by
  obtain ⟨h1, h2⟩ := putZ_free (d := d) (T := T) (n := n) (by rw [h.kv]; exact hk) h.op
  rw [h1]
  exact ⟨⟨h.tm, by simp [FdZ.setKv, h.kv], by simp [FdZ.setKv, FdZ.setOp], UB.setOp (Z := Z) h.ub ho⟩, h2⟩
theorem TS.to (h : TS Z T M l b o K) (x : Int) : TS (Z.setOp b (o.to x)) T M l b (o.to x) K :=
  ⟨h.tm, h.kv, by simp [FdZ.setOp], h.ub.setOp (h.ub b o h.op)⟩
theorem TS.first (T M : Nat) (b : Nat) (o : Opn) (hK : -K ≤ o.uses ∧ o.uses ≤ K) : TS (addZ (newZ noZ T M) b o) T M [] b o K :=
  ⟨by simp [addZ, newZ], by simp [addZ, newZ], by simp [addZ], fun c oc hc => by
    by_cases e : c = b
    · simp only [addZ, if_pos e, Option.some.injEq] at hc
      rw [← hc]; exact hK
    · simp only [addZ, if_neg e] at hc
      cases hc⟩
end

-- the document's example
theorem anc7_open : (openF 0 (-1) newD 1000 1 0 ⟨#[120]⟩ (bareF 6) 438).2 = (2, 0) ∧ One (openF 0 (-1) newD 1000 1 0 ⟨#[120]⟩ (bareF 6) 438).1 2 [(⟨#[120]⟩, 2)] 438 1 ⟨#[]⟩ := by
  have hb : bareF 6 = 6 := by decide
  rw [hb]
  have n1 : nd newD 1 = rootNd := by rw [nd_new, if_pos rfl]
  have hin : intoErr newD 1 = 0 := by unfold intoErr folderErr; rw [n1]; decide
  have hal : aloneF 6 = false := by decide
  have hf : fndR newD 1 ⟨#[120]⟩ true = (⟨0, 1, ⟨#[120]⟩⟩, 0) := by
    have := find_1 (d := newD) (up := upC newD) (s := ⟨#[120]⟩) (a := ⟨#[120]⟩) (follow := true) hin (by decide) (by decide) (by decide) (by decide) (by decide) (by decide) (by decide) (fun k hk => by rw [n1] at hk; cases hk) 40 0
    rw [n1] at this
    exact this
  have hmy : mayE newD 1 128 = 0 := by unfold mayE; rw [if_neg (by rw [has_new]; simp), n1]; decide
  obtain ⟨g1, g2, g3⟩ := made_go (d := newD) (room := 1000) (kind := 1) (m := freshM 438 0) (s := ⟨#[]⟩) (at' := 1) (nm := ⟨#[120]⟩) inv_new (by decide) (by decide) (by decide) (by decide) (by decide) (by decide)
    (by unfold folderErr; rw [n1]; decide) (by rw [n1]; decide) (by rw [count_new]; decide) (by rw [used_new]; decide)
  obtain ⟨h1, h2, h3⟩ := fresh_ok (d := newD) (room := 1000) (p := ⟨0, 1, ⟨#[120]⟩⟩) (m := 438) (mask := 0) (flags := 6) (t := ⟨#[120]⟩) (by decide) (by decide) hmy g1 g2 g3
  have e : openF 0 (-1) newD 1000 1 0 ⟨#[120]⟩ 6 438 = freshR newD 1000 0 ⟨0, 1, ⟨#[120]⟩⟩ ⟨#[120]⟩ 6 438 := by
    unfold openF
    rw [if_neg (fun x => x.2 (by decide))]
    unfold openR
    rw [hal]
    simp only [Bool.not_false]
    rw [hf, if_neg (by simp), if_pos rfl]
  rw [e]
  refine ⟨h1, ?_, ?_, fun j j1 j2 => ?_, by decide, fun x hx => ?_, by decide⟩
  · rw [h3, if_neg (by decide), if_pos rfl, n1]
    exact congrArg (Nd.mk 2 493 0 ⟨#[]⟩) (by decide : entPut [] ⟨#[120]⟩ ((newD.length : Nat) : Int) = [((⟨#[120]⟩ : ByteArray), (2 : Int))])
  · rw [h3, if_pos (by decide)]
    exact congrArg (fun x => Nd.mk 1 x 1 ⟨#[]⟩ []) (by decide : freshM 438 0 = 438)
  · rw [h3, if_neg (by simpa [newD] using j2), if_neg j1, nd_new, if_neg j1]
  · simp only [List.mem_singleton] at hx
    rw [hx]

end Go.Proofs.YtbmalnllppamdaaGreatDoor

/-
  Layer 7's statements: the document's example.
-/
set_option maxRecDepth 100000
set_option maxHeartbeats 4000000
namespace Go.Proofs.YtbmalnllppamdaaGreatDoor
open Go Go.RowKit

/-- What a call of files makes of tables, in a law: all that was there before is nobody's here. -/
structure FdX (W : World) (Z : FdZ) (w : World) (F a : Nat) (d : Nds) (room calls fail : Int) : Prop where
  ex : ∃ N : Nat → Prop, (∀ g, g < W.heap.size → N g) ∧ FdS N Z w F a d room calls fail
  keeps : Keeps NoB W w

section
variable {W w w' : World} {Z Z' : FdZ} {F a : Nat} {d d' : Nds} {room calls calls' fail : Int}

theorem FdX.call {f : Nat} {args : Array Value} {E : Ending} (h : FdX W Z w F a d room calls fail) (hc : ∀ N : Nat → Prop, FdS N Z w F a d room calls fail → Calls Tryz.prog f args w (FdTo N Z' w F a d' room calls' fail E)) :
    Calls Tryz.prog f args w fun e w' => e = E ∧ FdX W Z' w' F a d' room calls' fail := by
  obtain ⟨N, h1, h2⟩ := h.ex
  refine (hc N h2).mono ?_
  rintro e w' ⟨rfl, h3, k⟩
  exact ⟨rfl, ⟨N, h1, h3⟩, h.keeps.step k (fun g hg => .inr (Nat.le_of_not_lt fun hl => hg (h1 g hl)))⟩

theorem FdX.callE {f : Nat} {args : Array Value} {E : Ending} {Zb : Nat → FdZ} {db : Nat → Nds} (h : FdX W Z w F a d room calls fail)
    (hc : ∀ N : Nat → Prop, FdS N Z w F a d room calls fail → Calls Tryz.prog f args w fun e w' => ∃ b, w.heap.size ≤ b ∧ FdTo N (Zb b) w F a (db b) room calls' fail E e w') :
    Calls Tryz.prog f args w fun e w' => ∃ b, w.heap.size ≤ b ∧ e = E ∧ FdX W (Zb b) w' F a (db b) room calls' fail := by
  obtain ⟨N, h1, h2⟩ := h.ex
  refine (hc N h2).mono ?_
  rintro e w' ⟨b, hb, rfl, h3, k⟩
  exact ⟨b, hb, rfl, ⟨N, h1, h3⟩, h.keeps.step k (fun g hg => .inr (Nat.le_of_not_lt fun hl => hg (h1 g hl)))⟩

theorem FdX.asks {f : Nat} {args : Array Value} {Q : Ending → World → Prop} (h : FdX W Z w F a d room calls fail) (hc : ∀ N : Nat → Prop, FdS N Z w F a d room calls fail → Calls Tryz.prog f args w Q) : Calls Tryz.prog f args w Q := by
  obtain ⟨N, _, h2⟩ := h.ex
  exact hc N h2
theorem FdX.on (h : FdX W Z w F a d room calls fail) (k : Keeps NoB w w') : FdX W Z w' F a d room calls fail := by
  obtain ⟨N, h1, h2⟩ := h.ex
  exact ⟨⟨N, h1, h2.on k⟩, h.keeps.trans k⟩
end

theorem callE_ne {c : Int} (h : 0 ≤ c) : callE c (-1) = 0 := by unfold callE; rw [if_neg (by omega)]

theorem anchor7_any (w : World) : Calls Tryz.prog 10 #[] w fun e w' => e = .returned (.bool true) ∧ Keeps NoB w w' := by
  have HB := Lib.hid (begin_any w 1000 (-1) (by decide) (by decide))
  go_enter Tryz.func10, Tryz.ntmps10
  go_upto_region 2 with (go_at_call 50; go_loud (refine HB.out.mono ?_); rintro e w1 ⟨F, a, rfl, FS, k1⟩)
  have HS := Lib.hid (FdS.start FS)
  have HK1 := Lib.hid k1
  clear HB FS k1
  have HN := Lib.hid (fdNew_any HS.out)
  go_upto_region 5 with (go_at_call 51; go_loud (refine HN.out.mono ?_); rintro e w2 ⟨rfl, S2, k2⟩)
  have HX2 : Hid (FdX w (newZ noZ (w1.heap.size + 1) w1.heap.size) w2 F a newD 1000 0 (-1)) := ⟨⟨_, fun _ h => h, S2⟩, HK1.out.trans k2⟩
  clear HN S2 k2 HS HK1
  generalize w1.heap.size + 1 = T at *
  generalize w1.heap.size = M at *
  have hT : (newZ noZ T M).tm T = some M := by simp [newZ]
  obtain ⟨o1, o2⟩ := anc7_open
  have HO := Lib.hid (fun N (hN : FdS N (newZ noZ T M) w2 F a newD 1000 0 (-1)) => fdOpen_ok hN hT 1 (by decide) (by decide) (by decide) (by decide) (by rw [mass_new]; decide) (fun b o h => by cases h) 1 0 ⟨#[120]⟩ 6 438 (by decide) (by rw [o1]))
  rw [o1, show openN 0 (bareF 6) = 1 by decide] at HO
  have HO2 := Lib.hid o2
  generalize (openF 0 (-1) newD 1000 1 0 ⟨#[120]⟩ (bareF 6) 438).1 = d1 at *
  clear o1 o2
  replace HO := Lib.hid (HX2.out.callE HO.out)
  simp only at HO
  go_upto_region 7 with (go_at_call 12; go_loud (refine HO.out.mono ?_); rintro e w3 ⟨b, hb, rfl, X3⟩)
  obtain ⟨t3, f3⟩ := (TS.first (K := 5) T M b ⟨none, 2, 0, 6, 0⟩ (by decide)).put (n := 1) rfl (by decide) d1
  rw [f3] at X3
  have HX3 := Lib.hid X3
  have HT3 := Lib.hid t3
  clear X3 t3 f3 HO HX2 hb hT
  generalize putZ (addZ (newZ noZ T M) b ⟨none, 2, 0, 6, 0⟩) T 1 b = Z3 at *
  -- Dup
  have ub : ∀ {Z : FdZ} {o : Opn} {l}, TS Z T M l b o 5 → ∀ c oc, Z.op c = some oc → -2305843009213693952 ≤ oc.uses ∧ oc.uses ≤ 2305843009213693952 := fun h c oc hc => by have := h.ub c oc hc; omega
  have HD := Lib.hid (HX3.out.call fun N hN => fdDup_ok hN HT3.out.tm 1 2 (by decide) (by decide) (by decide) (by rw [HT3.out.kv]; rfl) HT3.out.op (ub HT3.out))
  obtain ⟨t4, f4⟩ := HT3.out.put (n := 2) rfl (by decide) d1
  rw [f4] at HD
  have HT4 := Lib.hid t4
  clear t4 f4 HX3 HT3
  generalize putZ Z3 T 2 b = Z4 at *
  go_upto_region 8 with (go_at_call 14; go_loud (refine HD.out.mono ?_); rintro e w4 ⟨rfl, X4⟩)
  have HX4 := Lib.hid X4
  clear HD X4 ub
  -- Write
  obtain ⟨v1, v2⟩ := one_writeG (room := 1000) HO2.out 0 ⟨#[97, 98]⟩ (by decide) (by decide) (by decide)
  have HW1 := Lib.hid (HX4.out.call fun N hN => fdWrite_file hN HT4.out.tm 1 (by rw [HT4.out.kv]; rfl) HT4.out.op rfl (by decide) (by decide) (by decide) (by decide) ⟨#[97, 98]⟩ (by decide) (by decide) (by decide))
  obtain ⟨d2, hd2⟩ : ∃ d2, writeTo d1 1000 2 ((0 : Nat) : Int) ⟨#[97, 98]⟩ = d2 := ⟨_, rfl⟩
  rw [show wrtF 1 (-1) d1 1000 ((Opn.mk none 2 0 6 0).use 1 |>.use 1).id ((Opn.mk none 2 0 6 0).use 1 |>.use 1).at' ⟨#[97, 98]⟩ = (d2, 0) from by unfold wrtF orFail; rw [if_neg (by rw [callE_ne (by decide)]; simp)]; rw [← hd2]; exact congrArg (Prod.mk _) v1] at HW1
  simp only [if_true] at HW1
  rw [hd2] at v2
  have HO3 := Lib.hid v2
  rw [show wrD ⟨#[]⟩ 0 ⟨#[97, 98]⟩ = ⟨#[97, 98]⟩ by decide] at HO3
  obtain ⟨Z5, hZ5⟩ : ∃ Z5, Z4.setOp b (((Opn.mk none 2 0 6 0).use 1 |>.use 1).to (((Opn.mk none 2 0 6 0).use 1 |>.use 1).at' + ((ByteArray.mk #[97, 98]).size : Int))) = Z5 := ⟨_, rfl⟩
  have HT5 : Hid (TS Z5 T M ([] ++ [(1, b)] ++ [(2, b)]) b ⟨none, 2, 2, 6, 2⟩ 5) := by rw [← hZ5]; exact HT4.out.to _
  rw [hZ5] at HW1
  clear v1 v2 HT4 HX4 HO2 hZ5 hd2
  go_upto_region 9 with (go_at_call 15; go_loud (refine HW1.out.mono ?_); rintro e w5 ⟨rfl, X5⟩)
  have HX5 := Lib.hid X5
  clear X5 HW1
  obtain ⟨v1, v2⟩ := one_writeG (room := 1000) HO3.out 2 ⟨#[99]⟩ (by decide) (by decide) (by decide)
  have HW2 := Lib.hid (HX5.out.call fun N hN => fdWrite_file hN HT5.out.tm 2 (by rw [HT5.out.kv]; rfl) HT5.out.op rfl (by decide) (by decide) (by decide) (by decide) ⟨#[99]⟩ (by decide) (by decide) (by decide))
  obtain ⟨d3, hd3⟩ : ∃ d3, writeTo d2 1000 2 ((2 : Nat) : Int) ⟨#[99]⟩ = d3 := ⟨_, rfl⟩
  rw [show wrtF (1 + 1) (-1) d2 1000 (Opn.mk none 2 2 6 2).id (Opn.mk none 2 2 6 2).at' ⟨#[99]⟩ = (d3, 0) from by unfold wrtF orFail; rw [if_neg (by rw [callE_ne (by decide)]; simp)]; rw [← hd3]; exact congrArg (Prod.mk _) v1] at HW2
  simp only [if_true] at HW2
  rw [hd3] at v2
  have HO4 := Lib.hid v2
  rw [show wrD ⟨#[97, 98]⟩ 2 ⟨#[99]⟩ = ⟨#[97, 98, 99]⟩ by decide] at HO4
  obtain ⟨Z6, hZ6⟩ : ∃ Z6, Z5.setOp b ((Opn.mk none 2 2 6 2).to ((Opn.mk none 2 2 6 2).at' + ((ByteArray.mk #[99]).size : Int))) = Z6 := ⟨_, rfl⟩
  have HT6 : Hid (TS Z6 T M ([] ++ [(1, b)] ++ [(2, b)]) b ⟨none, 2, 3, 6, 2⟩ 5) := by rw [← hZ6]; exact HT5.out.to _
  rw [hZ6] at HW2
  clear v1 v2 HT5 HX5 HO3 hZ6 hd3
  go_upto_region 10 with (go_at_call 15; go_loud (refine HW2.out.mono ?_); rintro e w6 ⟨rfl, X6⟩)
  have HX6 := Lib.hid X6
  clear X6 HW2
  have HNd := Lib.hid (HX6.out.asks fun N hN => fdNode_file hN HT6.out.tm 2 (by rw [HT6.out.kv]; rfl) HT6.out.op rfl)
  have HRd := Lib.hid (HX6.out.asks fun N hN => fread_any hN.fs 2 0 9)
  obtain ⟨r1, r2⟩ := one_read HO4.out 0 9
  rw [show readOf d3 2 0 9 = ⟨#[97, 98, 99]⟩ from r1.trans (by decide), show readErr d3 2 0 9 = 0 from r2] at HRd
  have HK := Lib.hid HX6.out.keeps
  clear r1 r2 HT6 HX6 HO4
  go_wp2_with (first | (go_at_call 16; go_loud (refine HNd.out.mono ?_); rintro e w7 ⟨rfl, rfl⟩) | (go_at_call 17; go_loud (refine HRd.out.mono ?_); rintro e w7 ⟨rfl, rfl⟩))
  go_ret
  exact ⟨rfl, HK.out⟩

end Go.Proofs.YtbmalnllppamdaaGreatDoor
