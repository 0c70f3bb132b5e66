/-
  Layer 26: contracts: the parts of a file.
-/
import Derived.Test.YtonkgdoaobojbaaGreatDoorG04
import Derived.Test.YtonkgdoaobojbaaGreatDoorG02
import Derived.BigQuiet
import Derived.Deep.QuietTactic
import Derived.Deep.Cut
import Derived.StillTailTactics

set_option linter.unusedSimpArgs false
set_option linter.unusedVariables false
set_option maxRecDepth 100000
set_option maxHeartbeats 8000000
namespace Go.Proofs.YtonkgdoaobojbaaGreatDoor
open Go Go.RowKit
structure Prt where
 f : Int
 way : Int
 t : ByteArray
def encPrt : Enc Prt where
 enc := fun x => [.int .i64 x.f, .int .i64 x.way, .string x.t]
 k := 3
 pos := by decide
 len := fun _ => rfl
 one := fun x v hv => by simp at hv; rcases hv with rfl | rfl | rfl <;> rfl
theorem tPrt : ElemT Tryz.prog encPrt 29 45 ⟨0, 0, ⟨#[]⟩⟩ 32 :=
 .of (.agg #[.int .i64 0, .int .i64 0, .string ⟨#[]⟩]) Tryz.underlying29 (by kernel_rfl) rfl
def tellB (way : Int) (x : ByteArray) : ByteArray := if way = 1 then x else if way = 2 then ⟨(encB x.data.toList).toArray⟩ else ⟨(escL x.data.toList).toArray⟩
def partP (k : Int) (ws : List Int) (x : ByteArray) : Prt := ⟨k, (bestP ws x).1, tellB (bestP ws x).1 x⟩
def fileE (ws : List Int) : List ByteArray -> Int
 | [] => 0
 | x :: l => if (bestP ws x).2 ≠ 0 then (bestP ws x).2 else fileE ws l
theorem tell_any (way : Int) (x : ByteArray) (hs : x.size <= 1000000) (w : World) : Calls Tryz.prog 42 #[.int .i64 way, .string x] w fun e w' => e = .returned (.tuple #[.string (tellB way x), .int .i64 0]) ∧ Keeps NoB w w' := by
 by_cases h2 : way = 2
 ·subst h2
  exact tell_uu x hs w
 ·by_cases h1 : way = 1
  ·subst h1
   rw [show tellB 1 x = x from rfl]
   go_enter Tryz.func42, Tryz.ntmps42
   go_wp2
   go_ret2
   exact ⟨rfl, Keeps.refl _ _⟩
  ·have b1 : (way == 1) = false := by simpa using h1
   have b2 : (way == 2) = false := by simpa using h2
   rw [show tellB way x = ⟨(escL x.data.toList).toArray⟩ by unfold tellB; rw [if_neg h1, if_neg h2]]
   have HE := Lib.hid (fun w1 : World => fEscape_any x w1 (by omega))
   generalize (⟨(escL x.data.toList).toArray⟩ : ByteArray) = t at *
   clear h1 h2
   go_enter Tryz.func42, Tryz.ntmps42
   go_wp2_with (go_at_call 71; go_loud (refine (HE.out _).mono ?_); rintro e w1 ⟨rfl, hk1⟩)
   go_ret2
   exact ⟨rfl, hk1⟩
def szAt7 (a : Act) : Nat := match a.tmps.getD 7 undef with
 | .string x => x.size
 | _ => 0
structure PlJ (w : World) (pb M : Nat) (tv fv : Value) (ws : List Int) (k : Int) (old all : List Prt) (E : Int) (w' : World) (s : ByteArray) (dn : List Prt) (v : Value) : Prop where
 bk : Bk w' pb [tv, fv, v]
 own : Own encPrt 45 (fun g => M <= g) w' v (old ++ dn)
 len : dn.length + s.size <= 1000000
 parts : dn ++ (cuts s).map (partP k ws) = all
 err : fileE ws (cuts s) = E
 keeps : Keeps (fun g => g = pb ∨ M <= g) w w'
def PlA (w : World) (pb M : Nat) (tv fv wv : Value) (ws : List Int) (k : Int) (old all : List Prt) (E : Int) (a' : Act) (w' : World) : Prop :=
 ∃ (fz : Nat -> Value) (s : ByteArray) (dn : List Prt) (v : Value), a' = { tmps := List.toArray (.pointer (some ⟨pb, 0, none⟩) :: .int .i64 k :: wv :: fz 3 :: fz 4 :: fz 5 :: fz 6 :: .string s :: fz 8 :: fz 9 :: fz 10 :: fz 11 :: fz 12 :: fz 13 :: fz 14 :: fz 15 :: fz 16 :: fz 17 :: fz 18 :: fz 19 :: fz 20 :: fz 21 :: fz 22 :: fz 23 :: fz 24 :: fz 25 :: fz 26 :: fz 27 :: fz 28 :: fz 29 :: fz 30 :: fz 31 :: fz 32 :: fz 33 :: fz 34 :: fz 35 :: fz 36 :: fz 37 :: fz 38 :: fz 39 :: fz 40 :: fz 41 :: fz 42 :: fz 43 :: fz 44 :: fz 45 :: fz 46 :: fz 47 :: fz 48 :: fz 49 :: fz 50 :: fz 51 :: fz 52 :: fz 53 :: fz 54 :: fz 55 :: fz 56 :: fz 57 :: fz 58 :: fz 59 :: fz 60 :: fz 61 :: fz 62 :: fz 63 :: fz 64 :: fz 65 :: fz 66 :: fz 67 :: []), defers := [] } ∧ PlJ w pb M tv fv ws k old all E w' s dn v
theorem PlA.mk {w : World} {pb M : Nat} {tv fv wv : Value} {ws : List Int} {k : Int} {old all : List Prt} {E : Int} {a' : Act} {w' : World} {s : ByteArray} {dn : List Prt} {v : Value}
 (h : (fun fz : Nat -> Value => a' = { tmps := List.toArray (.pointer (some ⟨pb, 0, none⟩) :: .int .i64 k :: wv :: fz 3 :: fz 4 :: fz 5 :: fz 6 :: .string s :: fz 8 :: fz 9 :: fz 10 :: fz 11 :: fz 12 :: fz 13 :: fz 14 :: fz 15 :: fz 16 :: fz 17 :: fz 18 :: fz 19 :: fz 20 :: fz 21 :: fz 22 :: fz 23 :: fz 24 :: fz 25 :: fz 26 :: fz 27 :: fz 28 :: fz 29 :: fz 30 :: fz 31 :: fz 32 :: fz 33 :: fz 34 :: fz 35 :: fz 36 :: fz 37 :: fz 38 :: fz 39 :: fz 40 :: fz 41 :: fz 42 :: fz 43 :: fz 44 :: fz 45 :: fz 46 :: fz 47 :: fz 48 :: fz 49 :: fz 50 :: fz 51 :: fz 52 :: fz 53 :: fz 54 :: fz 55 :: fz 56 :: fz 57 :: fz 58 :: fz 59 :: fz 60 :: fz 61 :: fz 62 :: fz 63 :: fz 64 :: fz 65 :: fz 66 :: fz 67 :: []), defers := [] }) (fun i => a'.tmps.toList.getD i undef)) (J : PlJ w pb M tv fv ws k old all E w' s dn v) : PlA w pb M tv fv wv ws k old all E a' w' :=
 ⟨fun i => a'.tmps.toList.getD i undef, s, dn, v, h, J⟩
def FileTo (w : World) (pb M : Nat) (tv fv : Value) (ws : List Int) (k : Int) (old : List Prt) (s : ByteArray) (e : Ending) (w' : World) : Prop :=
 e = .returned (.int .i64 (fileE ws (cuts s))) ∧ (fileE ws (cuts s) = 0 -> ∃ v, Bk w' pb [tv, fv, v] ∧ Own encPrt 45 (fun g => M <= g) w' v (old ++ (cuts s).map (partP k ws))) ∧ Keeps (fun g => g = pb ∨ M <= g) w w'
theorem file_any (w : World) (pb M : Nat) (items : List Itm) (own : List Int) (ws : List Int) (old : List Prt) (tp fp wp : Option Addr) (tc fc wc : Nat) (pv : Value) (k i : Nat) (x : Itm)
 (hb : Bk w pb [.slice tp items.length tc, .slice fp own.length fc, pv]) (hpb : pb < M) (hM : M <= w.heap.size)
 (hT : SlAt encItm (fun g => g < M ∧ g ≠ pb) w tp tc items) (hF : SlAt encInt (fun g => g < M ∧ g ≠ pb) w fp fc own) (hW : SlAt encInt (fun g => g < M ∧ g ≠ pb) w wp wc ws)
 (ho : Own encPrt 45 (fun g => M <= g) w pv old) (hk : own[k]? = some (i : Int)) (hi : items[i]? = some x) (hx : x.dat.size <= 500000) (hw1 : 1 <= ws.length) (hw2 : ws.length <= 1000) (hold : old.length <= 4000000000000) :
 Calls Tryz.prog 25 #[.pointer (some ⟨pb, 0, none⟩), .int .i64 (k : Int), .slice wp ws.length wc] w fun e w' => FileTo w pb M (.slice tp items.length tc) (.slice fp own.length fc) ws (k : Int) old x.dat e w' := by
 obtain ⟨tg, tO, rfl, ⟨htg1, htg2⟩, tgl, t0, t1, t2, t3, t4⟩ := hT.itm hi
 obtain ⟨fg, fo, rfl, ⟨hfg1, hfg2⟩, fgl, f0⟩ := hF.num hk
 have HW := Lib.hid hW
 have hkl : k < own.length := (List.getElem?_eq_some_iff.1 hk).1
 have hil : i < items.length := (List.getElem?_eq_some_iff.1 hi).1
 have htm := hT.max
 have htc := hT.cap
 have hfm := hF.max
 have hfc := hF.cap
 unfold maxLen at htm hfm
 have hkI : (k : Int) < (own.length : Int) := by omega
 have hiI : (i : Int) < (items.length : Int) := by omega
 have HJ0 : Hid (PlJ w pb M (.slice (some ⟨tg, tO, none⟩) items.length tc) (.slice (some ⟨fg, fo, none⟩) own.length fc) ws (k : Int) old ((cuts x.dat).map (partP (k : Int) ws)) (fileE ws (cuts x.dat)) w x.dat [] pv) :=
  Lib.hid ⟨hb, by rw [List.append_nil]; exact ho, by simp; omega, rfl, rfl, Keeps.refl _ _⟩
 have b0 := hb.cell 0 _ rfl
 have b1 := hb.cell 1 _ rfl
 have bl := hb.lt
 have HB := Lib.hid (fun (y : ByteArray) (h1 : 1 <= y.size) (h2 : y.size <= 1000000) (w1 : World) (hk1 : Keeps (fun g => g = pb ∨ M <= g) w w1) => best_ex y h1 h2 ws hw1 hw2 w1 (hW.keep hk1 (fun g hg _ h => by rcases h with h | h; exact hg.2 h; have := hg.1; omega)))
 have HFs := Lib.hid (fun (y : ByteArray) (h1 : 1 <= y.size) (h2 : y.size <= 1000000) (w1 : World) => first_ex y h2 h1 w1)
 have HTe := Lib.hid (fun (way : Int) (y : ByteArray) (h2 : y.size <= 1000000) (w1 : World) => tell_any way y h2 w1)
 have hold' := Lib.hid hold
 clear hb hT hF hW ho hk hi t0 t1 t2 t4 hold
 unfold FileTo
 generalize hall : (cuts x.dat).map (partP (k : Int) ws) = all at *
 generalize hE : fileE ws (cuts x.dat) = E at *
 obtain ⟨xp, xk, xm, xd, xs⟩ := x
 simp only at t3 HJ0 hx
 clear hall hE
 go_enter Tryz.func25, Tryz.ntmps25
 go_upto_region 1 with fail
 refine wp_scope_goto 0 (PlA w pb M (.slice (some ⟨tg, tO, none⟩) items.length tc) (.slice (some ⟨fg, fo, none⟩) own.length fc) (.slice wp ws.length wc) ws (k : Int) old all E) (fun a _ => szAt7 a) rfl ?_ ?_
 ·intro HJ
  have HJ' := Lib.hid HJ
  clear HJ
  go_upto_region 1 with fail
  go_quiet (fail)
  go_step
  go_step
  refine wp_seq ?_
  go_step3
  go_step
  refine HJ'.out _ _ ?_
  exact PlA.mk rfl ⟨HJ0.out.bk.on ((Keeps.refl _ _).drewN _), HJ0.out.own.keep (F := NoB) ((Keeps.refl _ _).drewN _) (fun _ _ h => h), HJ0.out.len, HJ0.out.parts, HJ0.out.err, HJ0.out.keeps.drewN _⟩
 ·rintro a' w1 ⟨fz, s, dn, v, rfl, J⟩
  have HJ := Lib.hid J
  clear J HJ0 b0 b1 bl t3 f0
  by_cases h0 : s.size = 0
  ·have hse : s.toList.isEmpty = true := by rw [empty_size, decide_eq_true h0]
   have HA : Hid (dn = all ∧ 0 = E) := Lib.hid (by
    have h1 := HJ.out.parts
    have h2 := HJ.out.err
    rw [cuts_nil h0] at h1 h2
    rw [List.map_nil, List.append_nil] at h1
    exact ⟨h1, h2⟩)
   clear h0
   go_wp2
   simp only [Exit.jump]
   (try simp only [Exit.inBlock, Exit.then])
   go_ret
   rw [<- HA.out.2, <- HA.out.1]
   exact ⟨rfl, fun _ => ⟨v, HJ.out.bk, HJ.out.own⟩, HJ.out.keeps⟩
  ·have hse : s.toList.isEmpty = false := by rw [empty_size, decide_eq_false h0]
   have hs1 : 1 <= s.size := by omega
   have hs2 : s.size <= 1000000 := by have := HJ.out.len; omega
   have hrg := fstN_range s hs1
   have hF1 := Lib.hid (HFs.out s hs1 hs2)
   have hcs := cuts_step hs1
   have hP := HJ.out.parts
   have hE := HJ.out.err
   rw [hcs] at hP hE
   have hxs : (s.extract 0 (fstN s)).size = fstN s := by rw [ByteArray.size_extract]; omega
   have hrs : (s.extract (fstN s) s.size).size = s.size - fstN s := by rw [ByteArray.size_extract]; omega
   have HBs := Lib.hid (fun w2 hk2 => HB.out (s.extract 0 (fstN s)) (by omega) (by omega) w2 hk2)
   have HTs := Lib.hid (fun way w2 => HTe.out way (s.extract 0 (fstN s)) (by omega) w2)
   have HMs : Hid ((s.extract (fstN s) s.size).size < s.size) := Lib.hid (by omega)
   have HLn : Hid ((dn.length + 1) + (s.extract (fstN s) s.size).size <= 1000000) := Lib.hid (by have := HJ.out.len; omega)
   have hn1 : ((fstN s : Nat) : Int) <= (s.size : Int) := by omega
   have hn0 : (0 : Int) <= ((fstN s : Nat) : Int) := by omega
   have hs9 : (s.size : Int) <= 1000000 := by omega
   have HP : Hid (dn ++ ((s.extract 0 (fstN s) :: cuts (s.extract (fstN s) s.size)).map (partP (k : Int) ws)) = all) := hP
   have HE : Hid ((if (bestP ws (s.extract 0 (fstN s))).2 ≠ 0 then (bestP ws (s.extract 0 (fstN s))).2 else fileE ws (cuts (s.extract (fstN s) s.size))) = E) := hE
   clear h0 hcs hP hE hxs hrs hrg HFs hs1
   generalize hn : fstN s = n at *
   generalize hx : s.extract 0 n = y at *
   obtain ⟨B, hB⟩ : ∃ B, bestP ws y = B := ⟨_, rfl⟩
   have HPt : Hid (partP (k : Int) ws y = ⟨(k : Int), B.1, tellB B.1 y⟩) := Lib.hid (by unfold partP; rw [hB])
   rw [hB] at HE HBs
   obtain ⟨way, be⟩ := B
   have HTw := Lib.hid (fun w2 => HTs.out way w2)
   simp only at HE HBs HPt HTw
   have HJb := HJ.out.bk
   have b2 := HJb.cell 2 _ rfl
   have bl := HJb.lt
   clear hB hn
   by_cases hbe : be = 0
   ·subst hbe
    have HE2 := HE.out
    rw [if_neg (by simp)] at HE2
    have HE3 := Lib.hid HE2
    clear HE HE2 HJb
    generalize tellB way y = T at *
    go_upto_region 11 with (first | (go_at_call 40; go_loud (refine (hF1.out _).mono ?_); rintro e w2 ⟨rfl, hk2⟩; have HK2 := Lib.hid hk2; clear hk2) | (go_at_call 41; go_loud (refine (HBs.out _ (HJ.out.keeps.trans (HK2.out.mono (fun g _ (h : False) => h.elim)))).mono ?_); rintro e w3 ⟨rfl, hk3⟩; have HK3 := Lib.hid (HK2.out.trans hk3); clear hk3) | (go_at_call 42; go_loud (refine (HTw.out _).mono ?_); rintro e w4 ⟨rfl, hk4⟩; have HK4 := Lib.hid (HK3.out.trans hk4); clear hk4))
    have HJb4 := Lib.hid (HJ.out.bk.on HK4.out)
    have ho4 := Lib.hid (HJ.out.own.keep (F := NoB) HK4.out (fun _ _ h => h))
    have b4 := HJb4.out.cell 2 _ rfl
    have bl4 := HJb4.out.lt
    have HLit := Lib.hid (own_lit (E := encPrt) (e := 45) (w := w4) (S := fun _ => True) [⟨(k : Int), way, T⟩] #[.int .i64 (k : Int), .int .i64 way, .string T] rfl 1 rfl trivial (by decide))
    go_wp2_with (at_builtin; go_loud (refine wpl_append rfl (.tmp 56) (.tmp 61) rfl tPrt (ho4.out.keep (F := NoB) ((Keeps.refl _ _).alloc _) (fun _ _ h => h)) HLit.out.sl rfl rfl (by have h1 := HK4.out.size; have h2 := HJ.out.keeps.size; simp; omega) (by have h1 := HLn.out; have h2 := hold'.out; simp [maxLen]; omega) (by have h1 := HLn.out; have h2 := hold'.out; simp; omega) ?_))
    intro v' w5 ho5 hk5 hf5
    obtain ⟨gb, cap, cur, rfl, hMg, _, _, _, _, _⟩ := ho5.row (by simp; omega)
    rw [show (old ++ (dn ++ [(⟨(k : Int), way, T⟩ : Prt)])).length = old.length + (dn.length + 1) by simp] at ho5
    have hpM := hpb
    have hnb : ¬ (v.ownBlock = some pb) := fun e => by have := ho4.out.2 pb e; omega
    have HJb5 := Lib.hid ((HJb4.out.on ((Keeps.refl NoB w4).alloc (.cells #[.int .i64 (k : Int), .int .i64 way, .string T] 45))).keep hk5 hnb)
    have b5 := HJb5.out.cell 2 _ rfl
    have z5 := HJb5.out.fz 2
    have bl5 := HJb5.out.lt
    have HO5 := Lib.hid ho5
    have HK5 := Lib.hid (((HJ.out.keeps.trans (HK4.out.mono (fun g _ (h : False) => h.elim))).trans ((Keeps.refl (fun g => g = pb ∨ M <= g) w4).alloc (.cells #[.int .i64 (k : Int), .int .i64 way, .string T] 45))).step hk5 (fun g hg => .inl (.inr (ho4.out.2 g hg))))
    clear ho5 hk5 hf5
    go_wp2_with fail
    go_step3
    refine ⟨rfl, PlA.mk (s := s.extract n s.size) (dn := dn ++ [⟨(k : Int), way, T⟩]) (v := .slice (some ⟨gb, 0, none⟩) (old.length + (dn.length + 1)) cap) rfl ⟨HJb5.out.put 2 _, ?_, ?_, ?_, HE3.out, HK5.out.setCell (p := ⟨pb, 2, none⟩) (.inl (.inl rfl)) _⟩, ?_⟩
    ·exact HO5.out.keep (kset w5 ⟨pb, 2, none⟩ _) (fun g hg e => by have := HO5.out.2 g hg; rw [show g = pb from e] at this; omega)
    ·rw [List.length_append]
     exact HLn.out
    ·rw [List.append_assoc, <- HP.out, List.map_cons, HPt.out]
     rfl
    ·exact HMs.out
   ·have HE2 := HE.out
    rw [if_pos hbe] at HE2
    have HE3 := Lib.hid HE2
    have hbe' : (be != 0) = true := by simpa using hbe
    clear HE HE2 HJb
    go_wp2_with (first | (go_at_call 40; go_loud (refine (hF1.out _).mono ?_); rintro e w2 ⟨rfl, hk2⟩; have HK2 := Lib.hid hk2; clear hk2) | (go_at_call 41; go_loud (refine (HBs.out _ (HJ.out.keeps.trans (HK2.out.mono (fun g _ (h : False) => h.elim)))).mono ?_); rintro e w3 ⟨rfl, hk3⟩; have HK3 := Lib.hid (HK2.out.trans hk3); clear hk3))
    simp only [Exit.jump]
    (try simp only [Exit.inBlock, Exit.then])
    go_ret
    rw [<- HE3.out]
    exact ⟨rfl, fun h => absurd h hbe, HJ.out.keeps.trans (HK3.out.mono (fun g _ (h : False) => h.elim))⟩
theorem tItm : ElemT Tryz.prog encItm 23 42 ⟨⟨#[]⟩, 0, 0, ⟨#[]⟩, ⟨#[]⟩⟩ 64 :=
 .of (.agg #[.string ⟨#[]⟩, .int .i64 0, .int .i64 0, .string ⟨#[]⟩, .string ⟨#[]⟩]) Tryz.underlying23 (by kernel_rfl) rfl
theorem tInt26 : ElemT Tryz.prog encInt 24 3 0 8 := .of (.int .i64 0) Tryz.underlying24 (by kernel_rfl) rfl
def ownN (l : List Itm) : Nat -> List Int
 | 0 => []
 | k + 1 => ownN l k ++ (match l[k]? with | some x => if x.kind = 1 ∧ x.same = ⟨#[]⟩ then [(k : Int)] else [] | none => [])
theorem ownN_len (l : List Itm) : ∀ n, (ownN l n).length <= n
 | 0 => Nat.le_refl _
 | k + 1 => by
   have := ownN_len l k
   unfold ownN
   rw [List.length_append]
   split
   ·split <;> simp <;> omega
   ·simp; omega
theorem ownN_at (l : List Itm) : ∀ n (k : Nat) (i : Int), (ownN l n)[k]? = some i -> ∃ (j : Nat) (x : Itm), i = (j : Int) ∧ l[j]? = some x ∧ j < n ∧ x.kind = 1 ∧ x.same = ⟨#[]⟩
 | 0, k, i, h => by simp [ownN] at h
 | m + 1, k, i, h => by
   unfold ownN at h
   rw [List.getElem?_append] at h
   split at h
   ·obtain ⟨j, x, h1, h2, h3, h4⟩ := ownN_at l m k i h
    exact ⟨j, x, h1, h2, by omega, h4⟩
   ·rcases hx : l[m]? with _ | x
    ·rw [hx] at h; simp at h
    ·rw [hx] at h
     simp only at h
     split at h
     ·next hc =>
      have hm := List.mem_of_getElem? h
      obtain rfl := List.mem_singleton.1 hm
      exact ⟨m, x, rfl, hx, by omega, hc⟩
     ·simp at h
def datI (l : List Itm) (i : Int) : ByteArray := match l[i.toNat]? with
 | some x => x.dat
 | none => ⟨#[]⟩
def datsP (l : List Itm) : List ByteArray := (ownN l l.length).map (datI l)
def firstE (ws : List Int) : List ByteArray -> Int
 | [] => 0
 | s :: r => if fileE ws (cuts s) ≠ 0 then fileE ws (cuts s) else firstE ws r
def partsD (ws : List Int) : Nat -> List ByteArray -> List Prt
 | _, [] => []
 | k, s :: r => (cuts s).map (partP (k : Int) ws) ++ partsD ws (k + 1) r
def waysP (ws : List Int) : List Int := if ws.length = 0 then [1, 2, 3] else ws
theorem cuts_len (s : ByteArray) : ∀ n, s.size <= n -> (cuts s).length <= s.size
 | 0, h => by rw [cuts_nil (by omega)]; exact Nat.zero_le _
 | n + 1, h => by
   by_cases h0 : s.size = 0
   ·rw [cuts_nil h0]; exact Nat.zero_le _
   ·have hr := fstN_range s (by omega)
    have ih := cuts_len (s.extract (fstN s) s.size) n (by rw [ByteArray.size_extract]; omega)
    rw [cuts_step (by omega), List.length_cons]
    rw [ByteArray.size_extract] at ih
    omega
def zPl : Value := .agg #[.slice none 0 0, .slice none 0 0, .slice none 0 0]
def MakeTo (l : List Itm) (ws : List Int) (w : World) (e : Ending) (w' : World) : Prop :=
 Keeps NoB w w' ∧
 if (ckE l).1 ≠ 0 then e = .returned (.tuple #[zPl, .int .i64 (ckE l).1])
 else if firstE (waysP ws) (datsP l) ≠ 0 then e = .returned (.tuple #[zPl, .int .i64 (firstE (waysP ws) (datsP l))])
 else ∃ tv fv pv, e = .returned (.tuple #[.agg #[tv, fv, pv], .int .i64 0]) ∧ Own encItm 42 (fun g => w.heap.size <= g) w' tv l ∧ Own encInt 3 (fun g => w.heap.size <= g) w' fv (ownN l l.length) ∧
  Own encPrt 45 (fun g => w.heap.size <= g) w' pv (partsD (waysP ws) 0 (datsP l))
theorem MakeTo.no1 {l : List Itm} {ws : List Int} {w : World} {e : Ending} {w' : World} (k : Keeps NoB w w') (h : (ckE l).1 ≠ 0) (he : e = .returned (.tuple #[zPl, .int .i64 (ckE l).1])) : MakeTo l ws w e w' := ⟨k, by rw [if_pos h]; exact he⟩
theorem MakeTo.no2 {l : List Itm} {ws : List Int} {w : World} {e : Ending} {w' : World} (k : Keeps NoB w w') (h : ¬ (ckE l).1 ≠ 0) (h2 : firstE (waysP ws) (datsP l) ≠ 0) (he : e = .returned (.tuple #[zPl, .int .i64 (firstE (waysP ws) (datsP l))])) : MakeTo l ws w e w' :=
 ⟨k, by rw [if_neg h, if_pos h2]; exact he⟩
theorem MakeTo.yes {l : List Itm} {ws : List Int} {w : World} {e : Ending} {w' : World} (k : Keeps NoB w w') (h : ¬ (ckE l).1 ≠ 0) (h2 : ¬ firstE (waysP ws) (datsP l) ≠ 0) {tv fv pv : Value} (he : e = .returned (.tuple #[.agg #[tv, fv, pv], .int .i64 0]))
 (ht : Own encItm 42 (fun g => w.heap.size <= g) w' tv l) (hf : Own encInt 3 (fun g => w.heap.size <= g) w' fv (ownN l l.length)) (hp : Own encPrt 45 (fun g => w.heap.size <= g) w' pv (partsD (waysP ws) 0 (datsP l))) : MakeTo l ws w e w' :=
 ⟨k, by rw [if_neg h, if_neg h2]; exact ⟨tv, fv, pv, he, ht, hf, hp⟩⟩
structure GnI (l : List Itm) (ws : List Int) (w : World) (pb gt : Nat) (tv : Value) (wp : Option Addr) (wc : Nat) (wr : World) (n : Nat) (fv : Value) : Prop where
 pbk : Bk wr pb [tv, fv, .slice none 0 0]
 rb : Bk wr w.heap.size [.slice none 0 0, .slice none 0 0, .slice none 0 0]
 tree : Own encItm 42 (fun g => g = gt) wr tv l
 files : Own encInt 3 (fun g => pb < g) wr fv (ownN l n)
 ways : SlAt encInt (fun g => g < pb) wr wp wc ws
 keeps : Keeps NoB w wr
theorem GnI.on {l : List Itm} {ws : List Int} {w : World} {pb gt : Nat} {tv : Value} {wp : Option Addr} {wc : Nat} {wr w' : World} {n : Nat} {fv : Value} (h : GnI l ws w pb gt tv wp wc wr n fv) (k : Keeps NoB wr w') : GnI l ws w pb gt tv wp wc w' n fv :=
 ⟨h.pbk.on k, h.rb.on k, h.tree.keep k (fun _ _ h => h), h.files.keep k (fun _ _ h => h), h.ways.keepN k, h.keeps.trans k⟩
structure GnJ (l : List Itm) (ws : List Int) (w : World) (pb gt M : Nat) (tv fv : Value) (wp : Option Addr) (wc : Nat) (all : List Prt) (E : Int) (wr : World) (k : Nat) (pv : Value) (old : List Prt) : Prop where
 pbk : Bk wr pb [tv, fv, pv]
 rb : Bk wr w.heap.size [.slice none 0 0, .slice none 0 0, .slice none 0 0]
 tree : Own encItm 42 (fun g => g = gt) wr tv l
 files : Own encInt 3 (fun g => pb < g ∧ g < M) wr fv (ownN l l.length)
 ways : SlAt encInt (fun g => g < pb) wr wp wc ws
 parts : Own encPrt 45 (fun g => M <= g) wr pv old
 len : old.length <= k * 500000
 eq : old ++ partsD ws k ((datsP l).drop k) = all
 err : firstE ws ((datsP l).drop k) = E
 size : M <= wr.heap.size
 keeps : Keeps NoB w wr
theorem GnJ.on {l : List Itm} {ws : List Int} {w : World} {pb gt M : Nat} {tv fv : Value} {wp : Option Addr} {wc : Nat} {all : List Prt} {E : Int} {wr w' : World} {k : Nat} {pv : Value} {old : List Prt} (h : GnJ l ws w pb gt M tv fv wp wc all E wr k pv old) (kp : Keeps NoB wr w') :
 GnJ l ws w pb gt M tv fv wp wc all E w' k pv old :=
 ⟨h.pbk.on kp, h.rb.on kp, h.tree.keep kp (fun _ _ h => h), h.files.keep kp (fun _ _ h => h), h.ways.keepN kp, h.parts.keep kp (fun _ _ h => h), h.len, h.eq, h.err, Nat.le_trans h.size kp.size, h.keeps.trans kp⟩
def WaysTo (ws : List Int) (w : World) (v : Value) (wx : World) : Prop :=
 ∃ wp wc, v = .slice wp (waysP ws).length wc ∧ SlAt encInt (fun g => g < wx.heap.size) wx wp wc (waysP ws) ∧ Bk wx w.heap.size [.slice none 0 0, .slice none 0 0, .slice none 0 0] ∧ Keeps NoB w wx
theorem SlAt.mono' {α : Type} {E : Enc α} {S S' : Nat -> Prop} {w : World} {p : Option Addr} {c : Nat} {l : List α} (h : SlAt E S w p c l) (hS : ∀ g, S g -> S' g) : SlAt E S' w p c l :=
 ⟨h.cap, h.max, h.nilc, h.spot, fun h0 => by
   obtain ⟨g, off, hp, hSg, hg, hc⟩ := h.cells h0
   exact ⟨g, off, hp, hS g hSg, hg, hc⟩⟩
theorem SlAt.below {α : Type} {E : Enc α} {S : Nat -> Prop} {w : World} {p : Option Addr} {c : Nat} {l : List α} (h : SlAt E S w p c l) : SlAt E (fun g => g < w.heap.size) w p c l :=
 ⟨h.cap, h.max, h.nilc, h.spot, fun h0 => by
   obtain ⟨g, off, hp, hS, hg, hc⟩ := h.cells h0
   exact ⟨g, off, hp, hg, hg, hc⟩⟩
theorem results_cell_tmp1G {fn : Func} {p u : Tmp} {ty : TypeId} (h : fn.results = #[.cell p ty, .tmp u]) (tmps : Array Value) (P : Program) (w : World) :
 (results fn tmps).run P w = ((asAddr (tmps.getD p undef)).run P w).andThen fun a w₁ => ((loadVar ty a).run P w₁).andThen fun v w₂ => .ok (.tuple #[v, tmps.getD u undef]) w₂ := by
 simp only [results, h]
 simp [Sem.run_bind, Result.andThen]
theorem make_any (l : List Itm) (hl : ∀ i ∈ l, i.p.size <= 1000000 ∧ i.dat.size <= 500000) (ws : List Int) (hws : ws.length <= 1000) (w : World) {S1 S2 : Nat -> Prop} {p wp : Option Addr} {cp wc : Nat} (hS : SlAt encItm S1 w p cp l) (hW : SlAt encInt S2 w wp wc ws) :
 Calls Tryz.prog 10 #[.slice p l.length cp, .slice wp ws.length wc] w fun e w' => MakeTo l ws w e w' := by
 have HC := Lib.hid (fun w1 (hk : Keeps NoB w w1) => check_any l (fun i hi => (hl i hi).1) w1 (hS.keep hk (fun _ _ _ h => h)))
 have HS := Lib.hid hS
 have HW := Lib.hid hW
 have hcap := hS.cap
 have hmax := hS.max
 have hwcap := hW.cap
 have hwmax := hW.max
 unfold maxLen at hmax hwmax
 have k0 : Keeps NoB w (w.alloc (.cells #[.slice none 0 0, .slice none 0 0, .slice none 0 0] 31)) := (Keeps.refl _ _).alloc _
 have HB0 := Lib.hid (Bk.new (Keeps.refl NoB (w.alloc (.cells #[.slice none 0 0, .slice none 0 0, .slice none 0 0] 31))))
 have HK0 := Lib.hid k0
 by_cases hck : (ckE l).1 ≠ 0
 ·have HCk := Lib.hid hck
  obtain ⟨R, hR⟩ : ∃ R, (ckE l).1 = R := ⟨_, rfl⟩
  have hRn : (R != 0) = true := by rw [<- hR]; simpa using hck
  have HR := Lib.hid hR
  have HC' := Lib.hid (HC.out _ k0)
  rw [hR] at HC'
  clear hck hS hW HC k0 hR
  go_enter Tryz.func10, Tryz.ntmps10
  go_wp2_with (go_at_call 24; go_loud (refine HC'.out.mono ?_); rintro e w1 ⟨rfl, hk1⟩; have hb1 := HB0.out.on hk1; have b0 := hb1.cell 0 _ rfl; have b1 := hb1.cell 1 _ rfl; have b2 := hb1.cell 2 _ rfl; have bl := hb1.lt; have z0 := hb1.fz 0; have z1 := hb1.fz 1; have z2 := hb1.fz 2; have HK1 := Lib.hid (HK0.out.trans hk1))
  refine bodyPost_ret (by rw [results_cell_tmp1G rfl]; go_simp; rfl) rfl ?_
  refine MakeTo.no1 (((HK1.out.setCell (p := ⟨w.heap.size, 0, none⟩) (.inr (Nat.le_refl _)) _).setCell (p := ⟨w.heap.size, 1, none⟩) (.inr (Nat.le_refl _)) _).setCell (p := ⟨w.heap.size, 2, none⟩) (.inr (Nat.le_refl _)) _) HCk.out ?_
  rw [HR.out]
  rfl
 ·have hR : (ckE l).1 = 0 := by simpa using hck
  have HCk := Lib.hid hck
  have hl0 : 0 < l.length ∧ l.length <= 4096 := by
   unfold ckE at hR
   by_cases h0 : l.length = 0
   ·rw [if_pos h0] at hR
    exact absurd hR (by decide)
   ·rw [if_neg h0] at hR
    by_cases h9 : 4096 < l.length
    ·rw [if_pos h9] at hR
     exact absurd hR (by decide)
    ·omega
  have HC' := Lib.hid (HC.out _ k0)
  rw [hR] at HC'
  obtain ⟨hl1, hl2⟩ := hl0
  have HL := Lib.hid hl
  obtain ⟨bz, hbz⟩ : ∃ bz, ((ws.length : Int) == 0) = bz := ⟨_, rfl⟩
  have hnil : (ws.length = 0 ∧ bz = true) ∨ (0 < ws.length ∧ bz = false) := by
   by_cases h : ws.length = 0
   ·exact .inl ⟨h, by rw [<- hbz]; simp [h]⟩
   ·exact .inr ⟨by omega, by rw [<- hbz]; simpa using h⟩
  have Hnil := Lib.hid hnil
  have HWn : Hid (ws.length = 0 -> waysP ws = [1, 2, 3]) := Lib.hid (fun h => if_pos h)
  have HWy : Hid (0 < ws.length -> waysP ws = ws) := Lib.hid (fun h => if_neg (by omega))
  have HWl : Hid (1 <= (waysP ws).length ∧ (waysP ws).length <= 1000) := Lib.hid (by
   unfold waysP
   split
   ·exact ⟨by decide, by decide⟩
   ·exact ⟨by omega, hws⟩)
  clear hck hS hW HC k0 hR hl hws hnil
  generalize (ckE l).2 = R2 at *
  go_enter Tryz.func10, Tryz.ntmps10
  go_upto_if 24 with (go_at_call 24; go_loud (refine HC'.out.mono ?_); rintro e w1 ⟨rfl, hk1⟩; have hb1 := HB0.out.on hk1; have HB1 := Lib.hid hb1; have HK1 := Lib.hid (HK0.out.trans hk1); clear hk1 hb1)
  go_cut [1] from 25 to 25 (fun v wx => WaysTo ws w v wx)
  case first =>
   rcases Hnil.out with ⟨h0', rfl⟩ | ⟨h0', rfl⟩ <;> have h0 := Lib.hid h0' <;> clear h0'
   ·have HLit := Lib.hid (own_lit (E := encInt) (e := 3) (w := w1) (S := fun _ => True) [1, 2, 3] #[.int .i64 1, .int .i64 2, .int .i64 3] rfl 3 rfl trivial (by decide))
    go_wp2
    go_meet
    obtain ⟨p2, c2, he2, hs2⟩ := HLit.out.sl
    cases he2
    refine ⟨some ⟨w1.heap.size, 0, none⟩, 3, ?_, ?_, HB1.out.on ((Keeps.refl _ _).alloc _), HK1.out.alloc _⟩
    ·rw [HWn.out h0.out]; rfl
    ·rw [HWn.out h0.out]; exact hs2.below
   ·go_wp2
    go_meet
    refine ⟨wp, wc, ?_, ?_, HB1.out, HK1.out⟩
    ·rw [HWy.out h0.out]
    ·rw [HWy.out h0.out]; exact (HW.out.keepN HK1.out).below
  case rest =>
   obtain ⟨wp', wc', rfl, hwx, hbx, hkx⟩ := hcut
   generalize hws' : waysP ws = ws' at *
   have HWx := Lib.hid hwx
   have HBx := Lib.hid hbx
   have HKx := Lib.hid hkx
   clear hwx hbx hkx Hnil HWn HWy HB1 HK1 HC' hbz
   go_upto_region 6 with fail
   go_wp2_with (at_builtin; go_loud (refine wpl_append rfl (.const (.slice none 0 0)) (.tmp 26) rfl tItm (Own.nil encItm 42 (fun g => wc.heap.size <= g) _) ⟨p, cp, rfl, HS.out.keepN HKx.out⟩ rfl rfl (Nat.le_refl _) (by simp [maxLen]; omega) (by simp; omega) ?_))
   intro tv w2 ho2 hk2 hf2
   obtain ⟨gt, tcap, tcur, rfl, hgt, _, _, htm, _, _⟩ := ho2.row hl1
   have hown2 : Own encItm 42 (fun g => g = gt) w2 (.slice (some ⟨gt, 0, none⟩) l.length tcap) l := ⟨ho2.1, fun g hg => by cases hg; rfl⟩
   have hgl : gt < w2.heap.size := ho2.lt gt rfl
   have hk2' : Keeps NoB wc w2 := ⟨hk2.os, hk2.tape, hk2.output, hk2.size, fun i hi _ => hk2.block i hi (fun e => by cases e)⟩
   have ka : Keeps NoB w2 (w2.alloc (.cells #[.slice (some ⟨gt, 0, none⟩) l.length tcap, .slice none 0 0, .slice none 0 0] 31)) := (Keeps.refl _ _).alloc _
   have HG : Hid (GnI l ws' w w2.heap.size gt (.slice (some ⟨gt, 0, none⟩) l.length tcap) wp' wc' (w2.alloc (.cells #[.slice (some ⟨gt, 0, none⟩) l.length tcap, .slice none 0 0, .slice none 0 0] 31)) 0 (.slice none 0 0)) :=
    Lib.hid ⟨Bk.new (Keeps.refl NoB _), (HBx.out.on hk2').on ka, hown2.keep ka (fun _ _ h => h), Own.nil _ _ _ _, ((HWx.out.keepN hk2').keepN ka).mono' (fun g hg => Nat.lt_of_lt_of_le hg hk2'.size), (HKx.out.trans hk2').trans ka⟩
   have HGl := Lib.hid hgl
   have HTw : Hid (w.heap.size <= gt ∧ gt ≠ w.heap.size) := Lib.hid (by have h1 : wc.heap.size <= gt := hgt; have := HBx.out.lt; constructor <;> omega)
   have HQ : Hid (w.heap.size ≠ w2.heap.size ∧ w.heap.size <= w2.heap.size) := Lib.hid ⟨by have := HBx.out.lt; have := hk2'.size; omega, by have := HBx.out.lt; have := hk2'.size; omega⟩
   clear ho2 hk2 hf2 hown2 hgl hk2' ka HBx HKx HWx
   go_upto_region 8 with fail
   generalize w2.alloc (.cells #[.slice (some ⟨gt, 0, none⟩) l.length tcap, .slice none 0 0, .slice none 0 0] 31) = w3 at *
   generalize w2.heap.size = pb at *
   have hpb := HG.out.keeps.size
   go_loopw [31] (fun i wr => ∃ (n : Nat) (fv : Value), n <= l.length ∧ i = .int .i64 n ∧ GnI l ws' w pb gt (.slice (some ⟨gt, 0, none⟩) l.length tcap) wp' wc' wr n fv) (fun i _ => l.length + 1 - (intOf i).toNat)
   case atStart => exact ⟨0, _, Nat.zero_le _, rfl, HG.out⟩
   case round =>
    rename World => wr
    obtain ⟨n, fv, hn, rfl, hG⟩ := hrel
    by_cases hlt : n < l.length
    ·obtain ⟨x, hx⟩ : ∃ x, l[n]? = some x := ⟨_, List.getElem?_eq_getElem hlt⟩
     obtain ⟨g, o, rfl, _, hgl, c0, c1, c2, c3, c4⟩ := HS.out.itm hx
     have hkc : ∀ (j : Nat) v, w.cell? ⟨g, j, none⟩ = some v -> wr.cell? ⟨g, j, none⟩ = some v := fun j v h => (hG.keeps.cell (p := ⟨g, j, none⟩) hgl (fun h => h)).trans h
     have d0 := hkc _ _ c0
     have d1 := hkc _ _ c1
     have d2 := hkc _ _ c2
     have d3 := hkc _ _ c3
     have d4 := hkc _ _ c4
     have dl := lt_of_cell d0
     have HO : Hid (ownN l (n + 1) = ownN l n ++ (if x.kind = 1 ∧ x.same = ⟨#[]⟩ then [(n : Int)] else [])) := Lib.hid (by rw [ownN, hx])
     have hol : (ownN l n).length <= n := ownN_len l n
     obtain ⟨xp, xk, xm, xd, xs⟩ := x
     simp only at d0 d1 d2 d3 d4 HO
     have ka : Keeps NoB wr (wr.alloc (.cells #[.string xp, .int .i64 xk, .int .i64 xm, .string xd, .string xs] 42)) := (Keeps.refl _ _).alloc _
     have HGa := Lib.hid (hG.on ka)
     have HG0 := Lib.hid hG
     clear hkc c0 c1 c2 c3 c4 hx
     by_cases hk1 : xk = 1
     ·subst hk1
      by_cases hs1 : xs = ⟨#[]⟩
      ·subst hs1
       have HO2 := HO.out
       rw [if_pos ⟨rfl, rfl⟩] at HO2
       have HO3 := Lib.hid HO2
       have pb1 := hG.pbk.cell 1 _ rfl
       have pbl := hG.pbk.lt
       have hlit := own_lit (E := encInt) (e := 3) (w := wr.alloc (.cells #[.string xp, .int .i64 1, .int .i64 xm, .string xd, .string ⟨#[]⟩] 42)) (S := fun _ => True) [(n : Int)] #[.int .i64 (n : Int)] rfl 1 rfl trivial (by decide)
       rw [show (wr.alloc (.cells #[.string xp, .int .i64 1, .int .i64 xm, .string xd, .string ⟨#[]⟩] 42)).heap.size = wr.heap.size + 1 by simp] at hlit
       have HLit := Lib.hid hlit
       have ka2 : Keeps NoB (wr.alloc (.cells #[.string xp, .int .i64 1, .int .i64 xm, .string xd, .string ⟨#[]⟩] 42)) ((wr.alloc (.cells #[.string xp, .int .i64 1, .int .i64 xm, .string xd, .string ⟨#[]⟩] 42)).alloc (.cells #[.int .i64 (n : Int)] 3)) := (Keeps.refl _ _).alloc _
       have HGb := Lib.hid (HGa.out.on ka2)
       clear HO HO2 hG ka ka2 hlit
       go_wp2_with (at_builtin; go_loud (refine wpl_append rfl (.tmp 45) (.tmp 47) rfl tInt26 HGb.out.files HLit.out.sl rfl rfl (by have h1 := HGb.out.pbk.lt; exact h1) (by simp [maxLen]; omega) (by simp; omega) ?_))
       intro fv' w5 ho5 hk5 hf5
       rw [<- HO3.out] at ho5
       obtain ⟨gb, cap, cur, rfl, hMg, _, _, _, _, _⟩ := ho5.row (by rw [HO3.out]; simp)
       have hnf : ∀ b, b <= pb -> ¬ (fv.ownBlock = some b) := fun b hb e => by have := HGb.out.files.2 b e; omega
       have HP5 := Lib.hid (HGb.out.pbk.keep hk5 (hnf pb (Nat.le_refl _)))
       have HN5 : Hid (GnI l ws' w pb gt (.slice (some ⟨gt, 0, none⟩) l.length tcap) wp' wc' (w5.setCell ⟨pb, 1, none⟩ (.slice (some ⟨gb, 0, none⟩) (ownN l (n + 1)).length cap)) (n + 1) (.slice (some ⟨gb, 0, none⟩) (ownN l (n + 1)).length cap)) := Lib.hid
        ⟨HP5.out.put 1 _, (HGb.out.rb.keep hk5 (hnf _ HQ.out.2)).keep (kset w5 ⟨pb, 1, none⟩ _) (fun e => by have h1 : w.heap.size = pb := e; have := HQ.out.1; omega),
          (HGb.out.tree.keep hk5 (fun g hg => by cases hg; exact hnf gt (Nat.le_of_lt HGl.out))).keep (kset w5 ⟨pb, 1, none⟩ _) (fun g hg e => by cases hg; have h1 : gt = pb := e; have := HGl.out; omega),
          ho5.keep (kset w5 ⟨pb, 1, none⟩ _) (fun g hg e => by have h1 : g = pb := e; have := ho5.2 g hg; omega),
          (HGb.out.ways.keep hk5 (fun g hg _ => hnf g (Nat.le_of_lt hg))).keep (kset w5 ⟨pb, 1, none⟩ _) (fun g hg _ e => by have h1 : g = pb := e; omega),
          (HGb.out.keeps.step hk5 (fun g hg => .inr (by have := HGb.out.files.2 g hg; have := HQ.out.2; omega))).setCell (p := ⟨pb, 1, none⟩) (.inr HQ.out.2) _⟩
       have p5 := HP5.out.cell 1 _ rfl
       have z5 := HP5.out.fz 1
       have l5 := HP5.out.lt
       clear ho5 hk5 hf5 hnf
       go_wp2_with fail
       go_roundw
       case rel => exact ⟨n + 1, _, by omega, by go_num, HN5.out⟩
       case measure => (simp [intOf]) <;> omega
      ·have HO2 := HO.out
       rw [if_neg (fun h => hs1 h.2)] at HO2
       have hsn : (xs.toList.isEmpty) = false := by simpa using notEmpty_eq hs1
       rw [List.append_nil] at HO2
       have HN : Hid (GnI l ws' w pb gt (.slice (some ⟨gt, 0, none⟩) l.length tcap) wp' wc' (wr.alloc (.cells #[.string xp, .int .i64 1, .int .i64 xm, .string xd, .string xs] 42)) (n + 1) fv) := Lib.hid ⟨HGa.out.pbk, HGa.out.rb, HGa.out.tree, by rw [HO2]; exact HGa.out.files, HGa.out.ways, HGa.out.keeps⟩
       clear HO HO2 hG ka hs1
       go_wp2
       go_roundw
       case rel => exact ⟨n + 1, _, by omega, by go_num, HN.out⟩
       case measure => (simp [intOf]) <;> omega
     ·have HO2 := HO.out
      rw [if_neg (fun h => hk1 h.1)] at HO2
      have hkn : (xk == 1) = false := by simpa using hk1
      rw [List.append_nil] at HO2
      have HN : Hid (GnI l ws' w pb gt (.slice (some ⟨gt, 0, none⟩) l.length tcap) wp' wc' (wr.alloc (.cells #[.string xp, .int .i64 xk, .int .i64 xm, .string xd, .string xs] 42)) (n + 1) fv) := Lib.hid ⟨HGa.out.pbk, HGa.out.rb, HGa.out.tree, by rw [HO2]; exact HGa.out.files, HGa.out.ways, HGa.out.keeps⟩
      clear HO HO2 hG ka hk1
      go_wp2
      go_roundw
      case rel => exact ⟨n + 1, _, by omega, by go_num, HN.out⟩
      case measure => (simp [intOf]) <;> omega
    ·obtain rfl : n = l.length := by omega
     obtain ⟨fp, fc, rfl, hfa⟩ := hG.files.sl
     have hom := hfa.max
     have hoc := hfa.cap
     unfold maxLen at hom
     have HG0 := Lib.hid hG
     have hHQ1 := HQ.out.1
     have hHQ2 := HQ.out.2
     have hgtp := HGl.out
     have p1 := hG.pbk.cell 1 _ rfl
     have p0l := hG.pbk.lt
     obtain ⟨all, hall⟩ : ∃ all, partsD ws' 0 (datsP l) = all := ⟨_, rfl⟩
     obtain ⟨E, hE⟩ : ∃ E, firstE ws' (datsP l) = E := ⟨_, rfl⟩
     have HAll := Lib.hid hall
     have HE := Lib.hid hE
     have HJ0 : Hid (GnJ l ws' w pb gt wr.heap.size (.slice (some ⟨gt, 0, none⟩) l.length tcap) (.slice fp (ownN l l.length).length fc) wp' wc' all E wr 0 (.slice none 0 0) []) := Lib.hid
      ⟨hG.pbk, hG.rb, hG.tree, ⟨hG.files.1, fun g hg => ⟨hG.files.2 g hg, hG.files.lt g hg⟩⟩, hG.ways, Own.nil _ _ _ _, Nat.zero_le _, by rw [List.drop_zero, hall]; rfl, by rw [List.drop_zero, hE], Nat.le_refl _, hG.keeps⟩
     have hol := ownN_len l l.length
     have hMl : pb < wr.heap.size := p0l
     clear hall hE hfa hG
     generalize hM : wr.heap.size = M at *
     go_upto_region 14 with fail
     go_loopw [54] (fun i wy => ∃ (k : Nat) (pv : Value) (old : List Prt), k <= (ownN l l.length).length ∧ i = .int .i64 k ∧ GnJ l ws' w pb gt M (.slice (some ⟨gt, 0, none⟩) l.length tcap) (.slice fp (ownN l l.length).length fc) wp' wc' all E wy k pv old) (fun i _ => (ownN l l.length).length + 1 - (intOf i).toNat)
     case atStart => exact ⟨0, _, [], Nat.zero_le _, rfl, HJ0.out⟩
     case round =>
      rename World => wy
      obtain ⟨k, pv, old, hk, rfl, hJ⟩ := hrel
      have HJ := Lib.hid hJ
      by_cases hkt : k < (ownN l l.length).length
      ·obtain ⟨io, hio⟩ : ∃ io, (ownN l l.length)[k]? = some io := ⟨_, List.getElem?_eq_getElem hkt⟩
       obtain ⟨j, x, rfl, hx, hjl, _⟩ := ownN_at l _ k _ hio
       have hdk : (datsP l).drop k = x.dat :: (datsP l).drop (k + 1) := by
        have hlen : (datsP l).length = (ownN l l.length).length := by unfold datsP; rw [List.length_map]
        have hget : (datsP l)[k]? = some x.dat := by
         unfold datsP
         rw [List.getElem?_map, hio]
         show some (datI l (j : Int)) = _
         unfold datI
         rw [show ((j : Int)).toNat = j from rfl, hx]
        rw [List.drop_eq_getElem_cons (by omega)]
        congr 1
        exact Option.some.inj ((List.getElem?_eq_getElem (by omega)).symm.trans hget)
       have hxl := HL.out x (List.mem_of_getElem? hx)
       have hF := file_any wy pb M l (ownN l l.length) ws' old (some ⟨gt, 0, none⟩) fp wp' tcap fc wc' pv k j x hJ.pbk hMl hJ.size
        (hJ.tree.at.mono' (fun g hg => by cases hg; exact ⟨by omega, by omega⟩)) (hJ.files.at.mono' (fun g hg => ⟨hg.2, by omega⟩)) (hJ.ways.mono' (fun g hg => ⟨by omega, by omega⟩)) hJ.parts hio hx hxl.2 HWl.out.1 HWl.out.2 (by have := hJ.len; omega)
       have hqe := hJ.eq
       have her := hJ.err
       rw [hdk] at hqe her
       have hcl := cuts_len x.dat x.dat.size (Nat.le_refl _)
       have HF := Lib.hid hF
       have HQe : Hid (old ++ ((cuts x.dat).map (partP (k : Int) ws') ++ partsD ws' (k + 1) ((datsP l).drop (k + 1))) = all) := Lib.hid hqe
       have HEr : Hid ((if fileE ws' (cuts x.dat) ≠ 0 then fileE ws' (cuts x.dat) else firstE ws' ((datsP l).drop (k + 1))) = E) := Lib.hid her
       have HCl := Lib.hid (Nat.le_trans hcl hxl.2)
       unfold FileTo at HF
       clear hF hqe her hcl hdk hio hx hjl hxl hJ
       generalize fileE ws' (cuts x.dat) = fe at *
       by_cases hfe : fe = 0
       ·have HEr2 := Lib.hid ((if_neg (by simpa using hfe)).symm.trans HEr.out)
        subst hfe
        go_wp2_with (go_at_call 25; go_loud (refine HF.out.mono ?_); rintro e w6 ⟨rfl, hz6, hk6⟩; obtain ⟨pv', hb6, ho6⟩ := hz6 rfl)
        have hlow : ∀ g, g < M -> g ≠ pb -> ¬ (g = pb ∨ M <= g) := fun g h1 h2 h => by rcases h with h | h <;> omega
        have HJ6 : Hid (GnJ l ws' w pb gt M (.slice (some ⟨gt, 0, none⟩) l.length tcap) (.slice fp (ownN l l.length).length fc) wp' wc' all E w6 (k + 1) pv' (old ++ (cuts x.dat).map (partP (k : Int) ws'))) := Lib.hid
         ⟨hb6, HJ.out.rb.keep hk6 (hlow _ (by omega) hHQ1), HJ.out.tree.keep hk6 (fun g hg => by cases hg; exact hlow gt (by omega) (by omega)), HJ.out.files.keep hk6 (fun g hg => by have := HJ.out.files.2 g hg; exact hlow g this.2 (by omega)),
           HJ.out.ways.keep hk6 (fun g hg _ => hlow g (by omega) (by omega)), ho6, by have h1 := HJ.out.len; have h2 := HCl.out; rw [List.length_append, List.length_map]; omega, by rw [List.append_assoc]; exact HQe.out, HEr2.out, Nat.le_trans HJ.out.size hk6.size,
           HJ.out.keeps.step hk6 (fun g hg => .inr (by rcases hg with h | h <;> omega))⟩
        clear hb6 ho6 hk6 hlow
        go_roundw
        case rel => exact ⟨k + 1, _, _, by omega, by go_num, HJ6.out⟩
        case measure => (simp [intOf]) <;> omega
       ·have HEr2 := Lib.hid ((if_pos (by simpa using hfe)).symm.trans HEr.out)
        have hfb : (fe != 0) = true := by simpa using hfe
        have HFe := Lib.hid hfe
        clear hfe
        go_wp2_with (go_at_call 25; go_loud (refine HF.out.mono ?_); rintro e w6 ⟨rfl, hz6, hk6⟩; have hb1 := HJ.out.rb.keep hk6 (fun h => by rcases h with h | h <;> omega); have b0 := hb1.cell 0 _ rfl; have b1 := hb1.cell 1 _ rfl; have b2 := hb1.cell 2 _ rfl; have bl := hb1.lt; have z0 := hb1.fz 0; have z1 := hb1.fz 1; have z2 := hb1.fz 2; have HK6 := Lib.hid (HJ.out.keeps.step hk6 (fun g hg => .inr (by rcases hg with h | h <;> omega))); clear hz6 hk6 hb1)
        refine bodyPost_ret (by rw [results_cell_tmp1G rfl]; go_simp; rfl) rfl ?_
        refine MakeTo.no2 (((HK6.out.setCell (p := ⟨w.heap.size, 0, none⟩) (.inr (Nat.le_refl _)) _).setCell (p := ⟨w.heap.size, 1, none⟩) (.inr (Nat.le_refl _)) _).setCell (p := ⟨w.heap.size, 2, none⟩) (.inr (Nat.le_refl _)) _) HCk.out ?_ ?_
        ·rw [hws', HE.out, <- HEr2.out]
         exact HFe.out
        ·rw [hws', HE.out, <- HEr2.out]
         rfl
      ·obtain rfl : k = (ownN l l.length).length := by omega
       obtain ⟨pp, pc, rfl, _⟩ := hJ.parts.sl
       have hlen : (datsP l).length = (ownN l l.length).length := by unfold datsP; rw [List.length_map]
       have hqe := hJ.eq
       have her := hJ.err
       rw [<- hlen, List.drop_length] at hqe her
       have HQe : Hid (old = all) := Lib.hid (by rw [<- hqe]; exact (List.append_nil _).symm)
       have HEr : Hid (0 = E) := Lib.hid her
       have q0 := hJ.pbk.cell 0 _ rfl
       have q1 := hJ.pbk.cell 1 _ rfl
       have q2 := hJ.pbk.cell 2 _ rfl
       have b0 := hJ.rb.cell 0 _ rfl
       have b1 := hJ.rb.cell 1 _ rfl
       have b2 := hJ.rb.cell 2 _ rfl
       have bl := hJ.rb.lt
       have z0 := hJ.rb.fz 0
       have z1 := hJ.rb.fz 1
       have z2 := hJ.rb.fz 2
       clear hJ hlen hqe her
       go_wp2
       refine bodyPost_ret (by rw [results_cell_tmp1G rfl]; go_simp; rfl) rfl ?_
       have kz : Keeps (fun g => g = w.heap.size) wy (((wy.setCell ⟨w.heap.size, 0, none⟩ (.slice (some ⟨gt, 0, none⟩) l.length tcap)).setCell ⟨w.heap.size, 1, none⟩ (.slice fp (ownN l l.length).length fc)).setCell ⟨w.heap.size, 2, none⟩ (.slice pp old.length pc)) :=
        Keeps.setCell (F := fun g => g = w.heap.size) (Keeps.setCell (F := fun g => g = w.heap.size) (Keeps.setCell (F := fun g => g = w.heap.size) (Keeps.refl _ wy) (p := ⟨w.heap.size, 0, none⟩) (.inl rfl) _) (p := ⟨w.heap.size, 1, none⟩) (.inl rfl) _) (p := ⟨w.heap.size, 2, none⟩) (.inl rfl) _
       have hgtw : w.heap.size <= gt ∧ gt ≠ w.heap.size := HTw.out
       refine MakeTo.yes (HJ.out.keeps.step kz (fun g hg => .inr (Nat.le_of_eq hg.symm))) HCk.out (by rw [hws', HE.out, <- HEr.out]; simp) rfl ?_ ?_ ?_
       ·exact ((HJ.out.tree.keep kz (fun g hg e => by cases hg; exact hgtw.2 e)).mono (fun g hg _ => by cases hg; exact hgtw.1))
       ·exact ((HJ.out.files.keep kz (fun g hg e => by have h1 := (HJ.out.files.2 g hg).1; have h2 : g = w.heap.size := e; omega)).mono (fun g hg h => by have h1 : pb < g := h.1; show w.heap.size <= g; omega))
       ·rw [hws', HAll.out, <- HQe.out]
        exact ((HJ.out.parts.keep kz (fun g hg e => by have h1 := HJ.out.parts.2 g hg; have h2 : g = w.heap.size := e; omega)).mono (fun g hg h => by have h1 : M <= g := h; show w.heap.size <= g; omega))
def itmA (d : ByteArray) : Itm := ⟨⟨#[97]⟩, 1, 0, d, ⟨#[]⟩⟩
theorem plain_97 : plainB ⟨#[97]⟩ = true := by decide +kernel
theorem ckE_one (d : ByteArray) (hd : d.size <= 4194304) : ckE [itmA d] = (0, 0) := by
 have h1 : shpE (itmA d) = 0 := by
  unfold shpE
  rw [if_neg (by rw [show (itmA d).p = ⟨#[97]⟩ from rfl, plain_97]; decide), if_neg (by rw [show (itmA d).kind = 1 from rfl]; decide), if_neg (by rw [show (itmA d).mode = 0 from rfl, show (itmA d).kind = 1 from rfl]; decide)]
  unfold bodE
  rw [show (itmA d).kind = 1 from rfl, if_neg (by simp), if_neg (by rw [show (itmA d).dat = d from rfl]; simp; omega), if_neg (by simp)]
 have h2 : upB (itmA d).p = ⟨#[46]⟩ := by
  rw [show (itmA d).p = ⟨#[97]⟩ from rfl]
  decide +kernel
 have h3 : addE (shpE (itmA d)) (upB (itmA d).p) ck0 (itmA d) = 0 := by
  rw [h1, h2]
  unfold addE
  rw [if_neg (by simp), if_neg (by rw [show (itmA d).p = ⟨#[97]⟩ from rfl, show ck0.last = ⟨#[]⟩ from rfl]; decide +kernel), if_neg (by simp), if_neg (by simp [itmA])]
 unfold ckE
 rw [if_neg (by simp), if_neg (by simp)]
 unfold ckGo
 rw [if_neg (by rw [h3]; simp)]
 rfl
theorem dats_one (d : ByteArray) : datsP [itmA d] = [d] := rfl
theorem cuts_a : cuts ⟨#[97, 10, 98]⟩ = [⟨#[97, 10]⟩, ⟨#[98]⟩] := by decide +kernel
theorem best_an : bestP [1, 2, 3] ⟨#[97, 10]⟩ = (1, 0) := by decide +kernel
theorem best_b : bestP [1, 2, 3] ⟨#[98]⟩ = (3, 0) := by decide +kernel
theorem tell_b : tellB 3 ⟨#[98]⟩ = ⟨#[98]⟩ := by decide +kernel
theorem parts_a : partsD [1, 2, 3] 0 (datsP [itmA ⟨#[97, 10, 98]⟩]) = [⟨0, 1, ⟨#[97, 10]⟩⟩, ⟨0, 3, ⟨#[98]⟩⟩] := by
 rw [dats_one]
 unfold partsD partsD
 rw [cuts_a]
 simp only [List.map_cons, List.map_nil, List.append_nil, partP, best_an, best_b, tell_b]
 rfl
theorem first_a : firstE [1, 2, 3] (datsP [itmA ⟨#[97, 10, 98]⟩]) = 0 := by
 rw [dats_one]
 unfold firstE firstE
 rw [cuts_a]
 simp only [fileE, best_an, best_b]
 rfl
theorem SlAt.prt {S : Nat -> Prop} {w : World} {p : Option Addr} {c : Nat} {l : List Prt} (h : SlAt encPrt S w p c l) {i : Nat} {x : Prt} (hi : l[i]? = some x) :
 ∃ g off, p = some ⟨g, off, none⟩ ∧ S g ∧ g < w.heap.size ∧ w.cell? ⟨g, off + i * 3, none⟩ = some (.int .i64 x.f) ∧ w.cell? ⟨g, off + i * 3 + 1, none⟩ = some (.int .i64 x.way) ∧ w.cell? ⟨g, off + i * 3 + 2, none⟩ = some (.string x.t) := by
 obtain ⟨g, off, hp, hS, hg, hc⟩ := h.at hi
 rw [show encPrt.k = 3 from rfl] at hc
 exact ⟨g, off, hp, hS, hg, by have := hc 0 _ rfl; simpa using this, by have := hc 1 _ rfl; rw [<- Nat.add_assoc] at this; exact this, by have := hc 2 _ rfl; rw [<- Nat.add_assoc] at this; exact this⟩
def PlanTo (w : World) (ps : List Prt) (e : Ending) (w' : World) : Prop :=
 ∃ tp tn tc fp fn fc pp pc, e = .returned (.tuple #[.agg #[.slice tp tn tc, .slice fp fn fc, .slice pp ps.length pc], .int .i64 0]) ∧ SlAt encPrt (fun g => w.heap.size <= g) w' pp pc ps ∧ Keeps NoB w w'
theorem make_one (d : ByteArray) (hd : d.size <= 500000) (ws : List Int) (hws : ws.length <= 1000) (hf : firstE (waysP ws) [d] = 0) (w : World) {S1 S2 : Nat -> Prop} {p wp : Option Addr} {cp wc : Nat} (hS : SlAt encItm S1 w p cp [itmA d]) (hW : SlAt encInt S2 w wp wc ws) :
 Calls Tryz.prog 10 #[.slice p 1 cp, .slice wp ws.length wc] w fun e w' => PlanTo w (partsD (waysP ws) 0 [d]) e w' := by
 refine (make_any [itmA d] (fun i hi => by obtain rfl := List.mem_singleton.1 hi; exact ⟨by show (1 : Nat) <= _; decide, hd⟩) ws hws w hS hW).mono ?_
 rintro e w' ⟨hk, hm⟩
 rw [if_neg (by rw [ckE_one d (by omega)]; simp), dats_one, if_neg (by rw [hf]; simp)] at hm
 obtain ⟨tv, fv, pv, rfl, ht, hf', hp⟩ := hm
 obtain ⟨tp, tc, rfl, _⟩ := ht.sl
 obtain ⟨fp, fc, rfl, _⟩ := hf'.sl
 obtain ⟨pp, pc, rfl, hps⟩ := hp.sl
 exact ⟨tp, _, tc, fp, _, fc, pp, pc, rfl, hps, hk⟩
theorem lit_itm (d : ByteArray) (w : World) : SlAt encItm (fun _ => True) (w.alloc (.cells #[.string ⟨#[97]⟩, .int .i64 1, .int .i64 0, .string d, .string ⟨#[]⟩] 42)) (some ⟨w.heap.size, 0, none⟩) 1 [itmA d] := by
 obtain ⟨p, c, he, h⟩ := (own_lit (E := encItm) (e := 42) (w := w) (S := fun _ => True) [itmA d] #[.string ⟨#[97]⟩, .int .i64 1, .int .i64 0, .string d, .string ⟨#[]⟩] rfl 1 rfl trivial (by decide)).sl
 cases he
 exact h
theorem anchor26_any (w : World) : Calls Tryz.prog 7 #[] w fun e w' => e = .returned (.bool true) ∧ Keeps NoB w w' := by
 have hM := make_one ⟨#[97, 10, 98]⟩ (by decide) [] (by decide) (by have := first_a; rw [dats_one] at this; exact this) _ (lit_itm ⟨#[97, 10, 98]⟩ w) (S2 := fun _ => True) (wp := none) (wc := 0) ⟨Nat.zero_le _, by decide, fun _ => rfl, fun h => absurd h (by decide), fun h => absurd h (by decide)⟩
 have hpp := parts_a
 rw [dats_one] at hpp
 rw [show waysP [] = [1, 2, 3] from rfl, hpp] at hM
 have HM := Lib.hid hM
 have ka : Keeps NoB w (w.alloc (.cells #[.string ⟨#[97]⟩, .int .i64 1, .int .i64 0, .string ⟨#[97, 10, 98]⟩, .string ⟨#[]⟩] 42)) := (Keeps.refl _ _).alloc _
 have HK := Lib.hid ka
 clear hM hpp ka
 go_enter Tryz.func7, Tryz.ntmps7
 go_upto_region 2 with (go_at_call 10; go_loud (refine HM.out.mono ?_); rintro e w1 ⟨tp, tn, tc, fp, fn, fc, pp, pc, rfl, hps, hk1⟩)
 obtain ⟨g, o, rfl, hSg, hg, a0, a1, a2⟩ := hps.prt (i := 0) rfl
 obtain ⟨g', o', he, _, _, b0, b1, b2⟩ := hps.prt (i := 1) rfl
 cases he
 have hcap := hps.cap
 have hmax := hps.max
 unfold maxLen at hmax
 have HK1 := Lib.hid (HK.out.trans hk1)
 clear hps hk1
 simp only [Nat.zero_mul, Nat.add_zero, Nat.one_mul, Nat.add_assoc, Nat.reduceAdd] at a0 a1 a2 b0 b1 b2
 go_wp2
 go_ret
 exact ⟨rfl, HK1.out.alloc _⟩
def szI (i : Itm) : Nat := i.p.size + i.dat.size + i.same.size
def sumI (l : List Itm) : Nat := (l.map szI).sum
theorem sumI_snoc {l : List Itm} {k : Nat} {x : Itm} (h : l[k]? = some x) : sumI (l.take (k + 1)) = sumI (l.take k) + szI x := by
 unfold sumI
 rw [List.take_add_one, h, List.map_append, List.sum_append]
 simp
theorem sumI_take_le (l : List Itm) : ∀ k, sumI (l.take k) <= sumI l := fun k => by
 have h := List.take_append_drop k l
 unfold sumI
 calc ((l.take k).map szI).sum <= ((l.take k).map szI).sum + ((l.drop k).map szI).sum := Nat.le_add_right _ _
  _ = _ := by rw [<- List.sum_append, <- List.map_append, h]
theorem sumI_mem {l : List Itm} {x : Itm} (h : x ∈ l) : szI x <= sumI l := by
 unfold sumI
 induction l with
 | nil => cases h
 | cons a l ih =>
   rw [List.map_cons, List.sum_cons]
   rcases List.mem_cons.1 h with rfl | h
   ·exact Nat.le_add_right _ _
   ·exact Nat.le_trans (ih h) (Nat.le_add_left _ _)
def shortB (l : List Itm) (n m : Nat) : Bool := decide (sumI l <= m) && decide (l.length <= n)
theorem short_any (l : List Itm) (n m : Nat) (hm : m <= 1000000) (hl : ∀ i ∈ l, i.p.size <= 140737488351232 ∧ i.dat.size <= 140737488351232 ∧ i.same.size <= 140737488351232) (w : World) {S : Nat -> Prop} {p : Option Addr} {cp : Nat} (hS : SlAt encItm S w p cp l) :
 Calls Tryz.prog 23 #[.slice p l.length cp, .int .i64 (n : Int), .int .i64 (m : Int)] w fun e w' => e = .returned (.bool (shortB l n m)) ∧ Keeps NoB w w' := by
 have hcap := hS.cap
 have hmax := hS.max
 unfold maxLen at hmax
 have HS := Lib.hid hS
 have HL := Lib.hid hl
 have HB : Hid (shortB l n m = (decide (sumI l <= m) && decide (l.length <= n))) := Lib.hid rfl
 generalize shortB l n m = B at *
 have hm' : (m : Int) <= 1000000 := by omega
 clear hl hS
 go_enter Tryz.func23, Tryz.ntmps23
 go_upto_region 3 with fail
 go_loopw [7, 12] (fun s i wr => ∃ k t : Nat, k <= l.length ∧ i = .int .i64 k ∧ s = .int .i64 t ∧ (t : Int) <= (m : Int) ∧ Keeps NoB w wr ∧ Hid (t = sumI (l.take k))) (fun _ i _ => l.length + 1 - (intOf i).toNat)
 case atStart => exact ⟨0, 0, Nat.zero_le _, rfl, rfl, by omega, Keeps.refl _ _, Lib.hid rfl⟩
 case round =>
  rename World => wr
  obtain ⟨k, t, hk, rfl, rfl, htm, hkr, hT⟩ := hrel
  have HKr := Lib.hid hkr
  by_cases hlt : k < l.length
  ·obtain ⟨x, hx⟩ : ∃ x, l[k]? = some x := ⟨_, List.getElem?_eq_getElem hlt⟩
   obtain ⟨g, o, rfl, _, hgl, c0, c1, c2, c3, c4⟩ := HS.out.itm hx
   have hkc : ∀ (j : Nat) v, w.cell? ⟨g, j, none⟩ = some v -> wr.cell? ⟨g, j, none⟩ = some v := fun j v h => (hkr.cell (p := ⟨g, j, none⟩) hgl (fun h => h)).trans h
   have d0 := hkc _ _ c0
   have d1 := hkc _ _ c1
   have d2 := hkc _ _ c2
   have d3 := hkc _ _ c3
   have d4 := hkc _ _ c4
   have dl := lt_of_cell d0
   obtain ⟨z0, z1, z2⟩ := HL.out x (List.mem_of_getElem? hx)
   have HN : Hid (t + szI x = sumI (l.take (k + 1))) := Lib.hid (by rw [sumI_snoc hx, <- hT.out])
   have hle := sumI_take_le l (k + 1)
   obtain ⟨xp, xk, xm, xd, xs⟩ := x
   simp only at d0 d1 d2 d3 d4 z0 z1 z2
   have HZ : Hid (szI ⟨xp, xk, xm, xd, xs⟩ = xp.size + xd.size + xs.size) := Lib.hid rfl
   have HLe := Lib.hid hle
   have y0 : (xp.size : Int) <= 140737488351232 := by omega
   have y1 : (xd.size : Int) <= 140737488351232 := by omega
   have y2 : (xs.size : Int) <= 140737488351232 := by omega
   have ka := hkr.alloc (.cells #[.string xp, .int .i64 xk, .int .i64 xm, .string xd, .string xs] 42)
   have HKa := Lib.hid ka
   clear hkc c0 c1 c2 c3 c4 hx hle ka hT hkr z0 z1 z2
   by_cases hbig : m < t + (xp.size + xd.size + xs.size)
   ·have hb' : (m : Int) < (t : Int) + ((xp.size : Int) + (xd.size : Int) + (xs.size : Int)) := by omega
    have HBf : Hid (B = false) := Lib.hid (by
     rw [HB.out, Bool.and_eq_false_iff]
     refine .inl (decide_eq_false ?_)
     have h1 := HN.out; have h2 := HZ.out; have h3 := HLe.out
     omega)
    clear hbig
    go_wp2
    go_ret
    rw [HBf.out]
    exact ⟨rfl, HKa.out⟩
   ·have hb' : ¬ (m : Int) < (t : Int) + ((xp.size : Int) + (xd.size : Int) + (xs.size : Int)) := by omega
    clear hbig
    go_wp2
    go_roundw
    case rel => exact ⟨k + 1, t + (xp.size + xd.size + xs.size), by omega, by go_num, by go_num, by omega, HKa.out, Lib.hid (by rw [<- HN.out, HZ.out])⟩
    case measure => (simp [intOf]) <;> omega
  ·obtain rfl : k = l.length := by omega
   have hT2 := hT.out
   rw [List.take_length] at hT2
   have HE : Hid (B = decide ((l.length : Int) <= (n : Int))) := Lib.hid (by
    rw [HB.out, decide_eq_true (show sumI l <= m by omega), Bool.true_and]
    exact decide_eq_decide.2 (by omega))
   clear hT hT2
   go_wp2
   go_ret
   refine ⟨ret_bool ?_, HKr.out⟩
   rw [HE.out]
   simp
theorem tItmR : ElemT Tryz.prog encItm 27 52 ⟨⟨#[]⟩, 0, 0, ⟨#[]⟩, ⟨#[]⟩⟩ 64 :=
 .of (.agg #[.string ⟨#[]⟩, .int .i64 0, .int .i64 0, .string ⟨#[]⟩, .string ⟨#[]⟩]) Tryz.underlying27 (by kernel_rfl) rfl
theorem items_any (l : List Itm) (hl : l.length <= 1000) (w : World) {S : Nat -> Prop} {p : Option Addr} {cp : Nat} (hS : SlAt encItm S w p cp l) :
 Calls Tryz.prog 9 #[.slice p l.length cp] w fun e w' => ∃ v, e = .returned v ∧ Own encItm 52 (fun g => w.heap.size <= g) w' v l ∧ Keeps NoB w w' := by
 have hcap := hS.cap
 have hmax := hS.max
 unfold maxLen at hmax
 have HS := Lib.hid hS
 clear hS
 go_enter Tryz.func9, Tryz.ntmps9
 go_upto_region 3 with fail
 go_loopw [3, 8] (fun v i wr => ∃ k : Nat, k <= l.length ∧ i = .int .i64 k ∧ Own encItm 52 (fun g => w.heap.size <= g) wr v (l.take k) ∧ Keeps NoB w wr) (fun _ i _ => l.length + 1 - (intOf i).toNat)
 case atStart => exact ⟨0, Nat.zero_le _, rfl, Own.nil _ _ _ _, Keeps.refl _ _⟩
 case round =>
  rename World => wr
  obtain ⟨k, hk, rfl, ho, hkr⟩ := hrel
  have HO := Lib.hid ho
  have HKr := Lib.hid hkr
  by_cases hlt : k < l.length
  ·obtain ⟨x, hx⟩ : ∃ x, l[k]? = some x := ⟨_, List.getElem?_eq_getElem hlt⟩
   obtain ⟨g, o, rfl, _, hgl, c0, c1, c2, c3, c4⟩ := HS.out.itm hx
   have hkc : ∀ (j : Nat) v, w.cell? ⟨g, j, none⟩ = some v -> wr.cell? ⟨g, j, none⟩ = some v := fun j v h => (hkr.cell (p := ⟨g, j, none⟩) hgl (fun h => h)).trans h
   have d0 := hkc _ _ c0
   have d1 := hkc _ _ c1
   have d2 := hkc _ _ c2
   have d3 := hkc _ _ c3
   have d4 := hkc _ _ c4
   have dl := lt_of_cell d0
   have HT : Hid (l.take k ++ [x] = l.take (k + 1)) := Lib.hid (by rw [List.take_add_one, hx]; rfl)
   have HLn : Hid ((l.take k).length = k) := Lib.hid (by rw [List.length_take]; omega)
   obtain ⟨xp, xk, xm, xd, xs⟩ := x
   simp only at d0 d1 d2 d3 d4
   have hlit := own_lit (E := encItm) (e := 52) (w := wr.alloc (.cells #[.string xp, .int .i64 xk, .int .i64 xm, .string xd, .string xs] 42)) (S := fun _ => True) [⟨xp, xk, xm, xd, xs⟩] #[.string xp, .int .i64 xk, .int .i64 xm, .string xd, .string xs] rfl 1 rfl trivial (by decide)
   rw [show (wr.alloc (.cells #[.string xp, .int .i64 xk, .int .i64 xm, .string xd, .string xs] 42)).heap.size = wr.heap.size + 1 by simp] at hlit
   have HLit := Lib.hid hlit
   have ka : Keeps NoB wr ((wr.alloc (.cells #[.string xp, .int .i64 xk, .int .i64 xm, .string xd, .string xs] 42)).alloc (.cells #[.string xp, .int .i64 xk, .int .i64 xm, .string xd, .string xs] 52)) := ((Keeps.refl _ _).alloc _).alloc _
   have HKa := Lib.hid (hkr.trans ka)
   have HOa := Lib.hid (ho.keep ka (fun _ _ h => h))
   have hsz : w.heap.size <= wr.heap.size := hkr.size
   clear hkc c0 c1 c2 c3 c4 hx ka hlit ho hkr
   go_wp2_with (at_builtin; go_loud (refine wpl_append rfl (.tmp 12) (.tmp 14) rfl tItmR HOa.out HLit.out.sl rfl rfl (by simp; omega) (by have := HLn.out; simp [maxLen]; omega) (by have := HLn.out; simp; omega) ?_))
   intro v' w5 ho5 hk5 hf5
   rw [HT.out] at ho5
   go_wp2_with fail
   go_roundw
   case rel => exact ⟨k + 1, by omega, by go_num, ho5, HKa.out.step hk5 (fun g hg => .inr (HO.out.2 g hg))⟩
   case measure => (simp [intOf]) <;> omega
  ·obtain rfl : k = l.length := by omega
   rw [List.take_length] at ho
   go_wp2
   go_ret
   exact ⟨_, rfl, ho, HKr.out⟩
theorem leastK_fin (cs : List Nat) : ∀ k, k <= cs.length -> ∀ b, leastK cs k = some b -> ∃ x, cs[b]? = some x ∧ ∀ (j : Nat) y, j < k -> cs[j]? = some y -> x <= y
 | 0, _, b, h => by cases h
 | k + 1, hk, b, h => by
   unfold leastK at h
   obtain ⟨z, hz⟩ : ∃ z, cs[k]? = some z := ⟨_, List.getElem?_eq_getElem (by omega)⟩
   have hzd : cs.getD k 0 = z := by simp [List.getD, hz]
   rcases hl : leastK cs k with _ | b'
   ·rw [hl] at h
    cases h
    refine ⟨z, hz, fun j y hj hy => ?_⟩
    have hk0 : k = 0 := by
     apply Decidable.byContradiction
     intro h0
     obtain ⟨b2, hb2⟩ := leastK_some cs k (by omega)
     rw [hl] at hb2; cases hb2
    obtain rfl : j = k := by omega
    rw [hz] at hy; cases hy
    exact Nat.le_refl _
   ·rw [hl] at h
    obtain ⟨x, hx, hm⟩ := leastK_fin cs k (by omega) b' hl
    have hxd : cs.getD b' 0 = x := by simp [List.getD, hx]
    simp only [hzd, hxd] at h
    split at h
    ·next hlt =>
     cases h
     refine ⟨z, hz, fun j y hj hy => ?_⟩
     by_cases hjk : j = k
     ·subst hjk; rw [hz] at hy; cases hy; exact Nat.le_refl _
     ·have := hm j y (by omega) hy; omega
    ·next hlt =>
     cases h
     refine ⟨x, hx, fun j y hj hy => ?_⟩
     by_cases hjk : j = k
     ·subst hjk; rw [hz] at hy; cases hy; omega
     ·exact hm j y (by omega) hy
theorem leastK_first (cs : List Nat) : ∀ k, k <= cs.length -> ∀ b, leastK cs k = some b -> ∀ x, cs[b]? = some x -> ∀ (j : Nat) y, j < b -> cs[j]? = some y -> x < y
 | 0, _, b, h => by cases h
 | k + 1, hk, b, h => by
   intro x hx j y hj hy
   unfold leastK at h
   obtain ⟨z, hz⟩ : ∃ z, cs[k]? = some z := ⟨_, List.getElem?_eq_getElem (by omega)⟩
   have hzd : cs.getD k 0 = z := by simp [List.getD, hz]
   rcases hl : leastK cs k with _ | b'
   ·rw [hl] at h
    cases h
    have hk0 : k = 0 := by
     apply Decidable.byContradiction
     intro h0
     obtain ⟨b2, hb2⟩ := leastK_some cs k (by omega)
     rw [hl] at hb2; cases hb2
    omega
   ·rw [hl] at h
    have hb'k := leastK_lt cs k b' hl
    obtain ⟨x', hx'⟩ : ∃ x', cs[b']? = some x' := ⟨_, List.getElem?_eq_getElem (by omega)⟩
    have hxd : cs.getD b' 0 = x' := by simp [List.getD, hx']
    simp only [hzd, hxd] at h
    split at h
    ·next hlt =>
     cases h
     rw [hz] at hx; cases hx
     obtain ⟨x2, hx2, hm⟩ := leastK_fin cs k (by omega) b' hl
     rw [hx'] at hx2; cases hx2
     have := hm j y hj hy
     omega
    ·next hlt =>
     have hbb : b' = b := Option.some.inj h
     subst hbb
     exact leastK_first cs k (by omega) b' hl x hx j y hj hy
theorem leastK_is {cs : List Nat} {i : Nat} {x : Nat} (hi : cs[i]? = some x) (h1 : ∀ (j : Nat) y, cs[j]? = some y -> ¬ y < x) (h2 : ∀ (i' : Nat) z, i' < i -> cs[i']? = some z -> ∃ (j : Nat) (y : Nat), cs[j]? = some y ∧ y < z) : leastK cs cs.length = some i := by
 have hil := (List.getElem?_eq_some_iff.1 hi).1
 obtain ⟨b, hb⟩ := leastK_some cs cs.length (by omega)
 obtain ⟨z, hz, hm⟩ := leastK_fin cs _ (Nat.le_refl _) b hb
 have hf := leastK_first cs _ (Nat.le_refl _) b hb z hz
 rcases Nat.lt_trichotomy i b with h | h | h
 ·exact absurd (hf i x h hi) (h1 b z hz)
 ·rw [hb, h]
 ·obtain ⟨j, y, hj, hy⟩ := h2 b z h hz
  have := hm j y (List.getElem?_eq_some_iff.1 hj).1 hj
  omega
theorem refLeast_any (l : List Nat) (w : World) {S : Nat -> Prop} {p : Option Addr} {c : Nat} (hS : SlAt encFl S w p c l) (hl : ∀ (i : Nat) x, l[i]? = some x -> okN x) :
 Calls Tryz.prog 47 #[.slice p l.length c] w fun e w' => e = .returned (.int .i64 (leastI (leastK (l.map nrmW) l.length))) ∧ Keeps NoB w w' := by
 have hcap := hS.cap
 have hmax := hS.max
 unfold maxLen at hmax
 have HS := Lib.hid hS
 have HLs := Lib.hid (fun (x y : Nat) (hx : okN x) (hy : okN y) (w1 : World) => refLess_any x y hx hy w1)
 have HL := Lib.hid hl
 obtain ⟨R, hR⟩ : ∃ R, leastI (leastK (l.map nrmW) l.length) = R := ⟨_, rfl⟩
 rw [hR]
 have HR := Lib.hid hR
 clear hS hl hR
 go_enter Tryz.func47, Tryz.ntmps47
 go_upto_region 2 with fail
 go_loopw [3] (fun i wr => ∃ n : Nat, n <= l.length ∧ i = .int .i64 n ∧ Keeps NoB w wr ∧ Hid (∀ (i' : Nat) z, i' < n -> (l.map nrmW)[i']? = some z -> ∃ (j : Nat) (y : Nat), (l.map nrmW)[j]? = some y ∧ y < z)) (fun i _ => l.length + 1 - (intOf i).toNat)
 case atStart => exact ⟨0, Nat.zero_le _, rfl, Keeps.refl _ _, Lib.hid (fun i' z h => by omega)⟩
 case round =>
  rename World => wr
  obtain ⟨n, hn, rfl, hkr, hI⟩ := hrel
  have HKr := Lib.hid hkr
  by_cases hlt : n < l.length
  ·obtain ⟨x, hx⟩ : ∃ x, l[n]? = some x := ⟨_, List.getElem?_eq_getElem hlt⟩
   obtain ⟨g, off, rfl, _, hg, c0⟩ := HS.out.fl hx
   have HX := Lib.hid hx
   have hni : (n : Int) < (l.length : Int) := by omega
   have HLx := Lib.hid (HL.out n x hx)
   have HMx : Hid ((l.map nrmW)[n]? = some (nrmW x)) := Lib.hid (by rw [List.getElem?_map, hx]; rfl)
   clear hx c0 hkr
   go_upto_region 6 with fail
   go_loopw [4, 5] (fun f i wz => ∃ (k : Nat) (b : Bool), k <= l.length ∧ i = .int .i64 k ∧ f = .bool b ∧ Keeps NoB wr wz ∧ Hid (b = true -> ∀ (j : Nat) y, j < k -> (l.map nrmW)[j]? = some y -> ¬ y < nrmW x) ∧ Hid (b = false -> ∃ (j : Nat) (y : Nat), (l.map nrmW)[j]? = some y ∧ y < nrmW x)) (fun _ i _ => l.length + 1 - (intOf i).toNat)
   case atStart => exact ⟨0, true, Nat.zero_le _, rfl, rfl, Keeps.refl _ _, Lib.hid (fun _ j y hj => by omega), Lib.hid (fun h => by cases h)⟩
   case round =>
    rename World => wz
    obtain ⟨k, b, hk, rfl, rfl, hkz, hT, hF⟩ := hrel
    have HKz := Lib.hid (HKr.out.trans hkz)
    have HKz0 := Lib.hid hkz
    by_cases hlk : k < l.length
    ·obtain ⟨y, hy⟩ : ∃ y, l[k]? = some y := ⟨_, List.getElem?_eq_getElem hlk⟩
     obtain ⟨g', off', he, _, _, e0⟩ := HS.out.fl hy
     cases he
     obtain ⟨g'', off'', he, _, _, e1⟩ := HS.out.fl HX.out
     cases he
     have f0 := (HKz.out.cell (p := ⟨g, off + k, none⟩) hg (fun h => h)).trans e0
     have f1 := (HKz.out.cell (p := ⟨g, off + n, none⟩) hg (fun h => h)).trans e1
     have fl := lt_of_cell f0
     have HLy := Lib.hid (fun w1 : World => HLs.out y x (HL.out k y hy) HLx.out w1)
     have HMy : Hid ((l.map nrmW)[k]? = some (nrmW y)) := Lib.hid (by rw [List.getElem?_map, hy]; rfl)
     have hki : (k : Int) < (l.length : Int) := by omega
     have hdec : (decide (nrmW y < nrmW x) = true ∧ Hid (nrmW y < nrmW x)) ∨ (decide (nrmW y < nrmW x) = false ∧ Hid (¬ nrmW y < nrmW x)) := by
      by_cases h : nrmW y < nrmW x
      ·exact .inl ⟨decide_eq_true h, Lib.hid h⟩
      ·exact .inr ⟨decide_eq_false h, Lib.hid h⟩
     generalize hb2 : decide (nrmW y < nrmW x) = b2 at *
     clear hb2 hy e0 e1 hkz
     go_upto_region 8 with fail
     go_still_tail 8, (by kernel_rfl)
     change wpList _ _ _ _ _ wz.drew
     have HKd := Lib.hid (HKz0.out.drew)
     rcases hdec with ⟨rfl, hd⟩ | ⟨rfl, hd⟩
     ·have HN1 : Hid (false = true -> ∀ (j : Nat) z, j < k + 1 -> (l.map nrmW)[j]? = some z -> ¬ z < nrmW x) := Lib.hid (fun h => by cases h)
      have HN2 : Hid (false = false -> ∃ (j : Nat) (z : Nat), (l.map nrmW)[j]? = some z ∧ z < nrmW x) := Lib.hid (fun _ => ⟨k, _, HMy.out, hd.out⟩)
      clear hT hF
      go_wp2_with (go_at_call 38; go_loud (refine (HLy.out _).mono ?_); rintro e w6 ⟨rfl, rfl⟩)
      go_roundw
      case rel => exact ⟨k + 1, false, by omega, by go_num, rfl, HKd.out, HN1, Lib.hid (fun _ => HN2.out trivial)⟩
      case measure => (simp [intOf]) <;> omega
     ·have HN1 : Hid (b = true -> ∀ (j : Nat) z, j < k + 1 -> (l.map nrmW)[j]? = some z -> ¬ z < nrmW x) := Lib.hid (fun hb j z hj hz => by
       by_cases hjk : j = k
       ·subst hjk
        rw [HMy.out] at hz
        cases hz
        exact hd.out
       ·exact hT.out hb j z (by omega) hz)
      clear hT
      go_wp2_with (go_at_call 38; go_loud (refine (HLy.out _).mono ?_); rintro e w6 ⟨rfl, rfl⟩)
      go_roundw
      case rel => exact ⟨k + 1, b, by omega, by go_num, rfl, HKd.out, HN1, hF⟩
      case measure => (simp [intOf]) <;> omega
    ·obtain rfl : k = l.length := by omega
     cases b with
     | true =>
       have HE : Hid ((n : Int) = R) := Lib.hid (by
        have h := leastK_is HMx.out (fun j y hy => hT.out rfl j y (by have := (List.getElem?_eq_some_iff.1 hy).1; rw [List.length_map] at this; exact this) hy) hI.out
        rw [List.length_map] at h
        rw [<- HR.out, h]
        rfl)
       clear hT hF hI hkz
       go_wp2
       go_ret
       rw [HE.out]
       exact ⟨rfl, HKz.out⟩
     | false =>
       have HN : Hid (∀ (i' : Nat) z, i' < n + 1 -> (l.map nrmW)[i']? = some z -> ∃ (j : Nat) (y : Nat), (l.map nrmW)[j]? = some y ∧ y < z) := Lib.hid (fun i' z hi' hz => by
        by_cases hin : i' = n
        ·subst hin
         rw [HMx.out] at hz
         cases hz
         exact hF.out rfl
        ·exact hI.out i' z (by omega) hz)
       clear hT hF hI hkz
       go_wp2
       go_roundw
       case rel => exact ⟨n + 1, by omega, by go_num, HKz.out, HN⟩
       case measure => (simp [intOf]) <;> omega
  ·obtain rfl : n = l.length := by omega
   have HE : Hid (-1 = R) := Lib.hid (by
    rcases Nat.eq_zero_or_pos l.length with h0 | h0
    ·rw [<- HR.out, h0]; rfl
    ·exfalso
     obtain ⟨b, hb⟩ := leastK_some (l.map nrmW) (l.map nrmW).length (by rw [List.length_map]; exact h0)
     have hbl := leastK_lt _ _ _ hb
     obtain ⟨z, hz, hm⟩ := leastK_fin (l.map nrmW) _ (Nat.le_refl _) b hb
     rw [List.length_map] at hbl
     obtain ⟨j, y, hj, hy⟩ := hI.out b z hbl hz
     have := hm j y (List.getElem?_eq_some_iff.1 hj).1 hj
     omega)
   clear hI hkr
   go_wp2
   go_ret
   rw [HE.out]
   exact ⟨rfl, HKr.out⟩
theorem txC_cases (b : UInt8) : (txC b = true ∧ ((b.toNat : Int) != 9) = false) ∨ (txC b = true ∧ ((b.toNat : Int) != 9) = true ∧ ((b.toNat : Int) != 10) = false) ∨
 (txC b = true ∧ ((b.toNat : Int) != 9) = true ∧ ((b.toNat : Int) != 10) = true ∧ decide ((b.toNat : Int) < 32) = false ∧ decide ((126 : Int) < (b.toNat : Int)) = false) ∨
 (txC b = false ∧ ((b.toNat : Int) != 9) = true ∧ ((b.toNat : Int) != 10) = true ∧ decide ((b.toNat : Int) < 32) = true) ∨
 (txC b = false ∧ ((b.toNat : Int) != 9) = true ∧ ((b.toNat : Int) != 10) = true ∧ decide ((b.toNat : Int) < 32) = false ∧ decide ((126 : Int) < (b.toNat : Int)) = true) := by
 have h9 : (b = 9) ↔ (b.toNat : Int) = 9 := by
  constructor
  ·intro h; subst h; rfl
  ·intro h; exact UInt8.toNat_inj.1 (by show b.toNat = 9; omega)
 have h10 : (b = 10) ↔ (b.toNat : Int) = 10 := by
  constructor
  ·intro h; subst h; rfl
  ·intro h; exact UInt8.toNat_inj.1 (by show b.toNat = 10; omega)
 unfold txC
 by_cases c9 : (b.toNat : Int) = 9
 ·refine .inl ⟨by rw [decide_eq_true (h9.2 c9)]; rfl, by simp [c9]⟩
 ·have e9 : decide (b = 9) = false := decide_eq_false (fun h => c9 (h9.1 h))
  have f9 : ((b.toNat : Int) != 9) = true := by simpa using c9
  by_cases c10 : (b.toNat : Int) = 10
  ·exact .inr (.inl ⟨by rw [e9, decide_eq_true (h10.2 c10)]; rfl, f9, by simp [c10]⟩)
  ·have e10 : decide (b = 10) = false := decide_eq_false (fun h => c10 (h10.1 h))
   have f10 : ((b.toNat : Int) != 10) = true := by simpa using c10
   by_cases c32 : (b.toNat : Int) < 32
   ·exact .inr (.inr (.inr (.inl ⟨by rw [e9, e10, decide_eq_false (show ¬ 32 <= b.toNat by omega)]; rfl, f9, f10, decide_eq_true c32⟩)))
   ·by_cases c126 : (126 : Int) < (b.toNat : Int)
    ·exact .inr (.inr (.inr (.inr ⟨by rw [e9, e10, decide_eq_false (show ¬ b.toNat <= 126 by omega), Bool.and_false]; rfl, f9, f10, decide_eq_false c32, decide_eq_true c126⟩)))
    ·exact .inr (.inr (.inl ⟨by rw [e9, e10, decide_eq_true (show 32 <= b.toNat by omega), decide_eq_true (show b.toNat <= 126 by omega)]; rfl, f9, f10, decide_eq_false c32, decide_eq_false c126⟩))
theorem refText_any (s : ByteArray) (hs : s.size <= 1000000) (h1 : 1 <= s.size) (w : World) : Calls Tryz.prog 45 #[.string s] w fun e w' => e = .returned (.bool (txB s)) ∧ w = w' := by
 have hl : s.data.toList.length = s.size := len_data s
 obtain ⟨x, hx⟩ : ∃ x, s.data.toList[s.size - 1]? = some x := ⟨_, List.getElem?_eq_getElem (by rw [hl]; omega)⟩
 have hlast := fun wx => idx_str s (s.size - 1) ((s.size : Int) - 1) (by omega) x hx wx
 have HX := Lib.hid (txB_last s h1 x hx)
 have HXn : Hid (decide (x = 10) = ((x.toNat : Int) == 10)) := Lib.hid (by rw [byte_eq x 10 (by decide) (by decide)]; rfl)
 generalize x.toNat = lst at *
 have hpos : decide ((0 : Int) < (s.size : Int)) = true := decide_eq_true (by omega)
 have HL := Lib.hid hl
 generalize htx : txB s = T at *
 clear hx hl htx
 go_enter Tryz.func45, Tryz.ntmps45
 go_wp2
 go_loop [3] (fun i => ∃ k : Nat, k <= s.size ∧ i = .int .i64 k ∧ Hid ((s.data.toList.take k).all txC = true)) (fun i => s.size + 1 - (intOf i).toNat)
 case atStart => exact ⟨0, Nat.zero_le _, rfl, Lib.hid rfl⟩
 case round =>
  obtain ⟨k, hk, rfl, hI⟩ := hrel
  by_cases hlt : k < s.size
  ·obtain ⟨b, hb⟩ : ∃ b, s.data.toList[k]? = some b := ⟨_, List.getElem?_eq_getElem (by rw [HL.out]; exact hlt)⟩
   have hix := fun wx => idx_str s k (k : Int) rfl b hb wx
   have HN := Lib.hid (all_take hb hI.out)
   have HM := Lib.hid (List.mem_of_getElem? hb)
   have hki : (k : Int) < (s.size : Int) := by omega
   clear hb
   rcases txC_cases b with ⟨h, c1⟩ | ⟨h, c1, c2⟩ | ⟨h, c1, c2, c3, c4⟩ | ⟨h, c1, c2, c3⟩ | ⟨h, c1, c2, c3, c4⟩
   ·have HN2 := Lib.hid (HN.out.trans h)
    clear h HN hI
    generalize (b.toNat : Int) = bn at *
    go_wp2
    go_round
    case rel => exact ⟨k + 1, by omega, by go_num, HN2⟩
    case measure => (simp [intOf]) <;> omega
   ·have HN2 := Lib.hid (HN.out.trans h)
    clear h HN hI
    generalize (b.toNat : Int) = bn at *
    go_wp2
    go_round
    case rel => exact ⟨k + 1, by omega, by go_num, HN2⟩
    case measure => (simp [intOf]) <;> omega
   ·have HN2 := Lib.hid (HN.out.trans h)
    clear h HN hI
    generalize (b.toNat : Int) = bn at *
    go_wp2
    go_round
    case rel => exact ⟨k + 1, by omega, by go_num, HN2⟩
    case measure => (simp [intOf]) <;> omega
   ·have HF : Hid (T = false) := Lib.hid (by
     rw [HX.out, Bool.and_eq_false_iff]
     refine .inl ?_
     rw [Bool.eq_false_iff]
     intro h2
     rw [List.all_eq_true.1 h2 b HM.out] at h
     cases h)
    clear h HN hI
    generalize (b.toNat : Int) = bn at *
    go_wp2
    go_ret
    rw [HF.out]
    exact ⟨rfl, rfl⟩
   ·have HF : Hid (T = false) := Lib.hid (by
     rw [HX.out, Bool.and_eq_false_iff]
     refine .inl ?_
     rw [Bool.eq_false_iff]
     intro h2
     rw [List.all_eq_true.1 h2 b HM.out] at h
     cases h)
    clear h HN hI
    generalize (b.toNat : Int) = bn at *
    go_wp2
    go_ret
    rw [HF.out]
    exact ⟨rfl, rfl⟩
  ·obtain rfl : k = s.size := by omega
   have HT : Hid (T = ((lst : Int) == 10)) := Lib.hid (by
    rw [HX.out, HXn.out]
    have := hI.out
    rw [List.take_of_length_le (Nat.le_of_eq HL.out)] at this
    rw [this, Bool.true_and])
   clear hI
   rcases hq : ((lst : Int) == 10) with _ | _
   all_goals
    go_wp2
    go_ret
    refine ⟨ret_bool ?_, rfl⟩
    rw [HT.out, hq]
theorem refLetter_any (n : Nat) (hn : n < 64) (w : World) : Calls Tryz.prog 132 #[.int .i64 (n : Int)] w fun e w' => e = .returned (.int .u8 ((uuL n).toNat : Int)) ∧ w = w' := by
 have hl : ((uuL n).toNat : Int) = if n = 0 then 96 else 32 + (n : Int) := uuL_nat ⟨n, hn⟩
 rw [hl]
 by_cases h0 : n = 0
 ·subst h0
  go_enter Tryz.func132, Tryz.ntmps132
  go_wp2
  go_ret
  exact ⟨rfl, rfl⟩
 ·rw [if_neg h0]
  have hb : ((n : Int) == 0) = false := by simp; omega
  have hw : IntKind.u8.wrap (32 + (n : Int)) = 32 + (n : Int) := by rw [show IntKind.u8.wrap (32 + (n : Int)) = (32 + (n : Int)) % 256 from rfl]; omega
  have hn' : (n : Int) < 64 := by omega
  clear h0 hl
  go_enter Tryz.func132, Tryz.ntmps132
  go_wp2
  go_ret
  exact ⟨rfl, rfl⟩
theorem pad_at {s : ByteArray} {q : List UInt8} (hq : q = uuP s.data.toList) {j : Nat} {b : UInt8} (hb : q[j]? = some b) : (j < s.size ∧ s.data.toList[j]? = some b) ∨ (s.size <= j ∧ b = 0) := by
 have hl := len_data s
 rw [hq] at hb
 unfold uuP at hb
 rw [List.getElem?_append] at hb
 split at hb
 ·next h => exact .inl ⟨by omega, hb⟩
 ·next h =>
  refine .inr ⟨by omega, ?_⟩
  rw [List.getElem?_replicate] at hb
  split at hb
  ·exact (Option.some.inj hb).symm
  ·cases hb
theorem refLine_any (s : ByteArray) (hs : s.size <= 45) (w : World) :
 Calls Tryz.prog 109 #[.string s] w fun e w' => e = .returned (.string ⟨(uuLine s.data.toList).toArray⟩) ∧ Keeps NoB w w' := by
 obtain ⟨l, hl⟩ : ∃ l, s.data.toList = l := ⟨_, rfl⟩
 have hz : s.size = l.length := by rw [<- hl, len_data]
 rw [hl]
 have HL := Lib.hid (fun (n : Nat) (hn : n < 64) (w1 : World) => refLetter_any n hn w1)
 have HL0 := Lib.hid (fun (w1 : World) => refLetter_any s.size (by omega) w1)
 have hz45 : (s.size : Int) <= 45 := by omega
 have HU : Hid (uuLine l = uuL s.size :: (uuG l ++ [10])) := Lib.hid (by rw [hz]; rfl)
 rw [HU.out]
 have HOwn := Lib.hid (own_lit (E := encU8) (e := 5) (w := w) (S := fun g => w.heap.size <= g) [uuL s.size] #[.int .u8 ((uuL s.size).toNat : Int)] rfl 1 rfl (Nat.le_refl _) (by decide))
 have HK1 := Lib.hid ((Keeps.refl NoB w).alloc (.cells #[.int .u8 ((uuL s.size).toNat : Int)] 5))
 have HG := Lib.hid (uuG_pad l)
 obtain ⟨q, hq⟩ : ∃ q, uuP l = q := ⟨_, rfl⟩
 have HQp : Hid (q = uuP s.data.toList) := Lib.hid (by rw [hl, hq])
 have HQl : Hid (q.length = (s.size + 2) / 3 * 3) := Lib.hid (by rw [<- hq, uuP_len, hz])
 rw [hq] at HG
 clear hl hz hq
 go_enter Tryz.func109, Tryz.ntmps109
 go_upto_region 3 with (go_at_call 132; go_loud (refine (HL0.out _).mono ?_); rintro e w1 ⟨rfl, rfl⟩)
 generalize w.alloc (.cells #[.int .u8 ((uuL s.size).toNat : Int)] 5) = w1 at *
 go_loopw [3, 4] (fun v ii wr => ∃ (i : Nat) (out : List UInt8), i <= (s.size + 2) / 3 * 3 ∧ i % 3 = 0 ∧ ii = .int .i64 (i : Int) ∧ out = uuL s.size :: uuG (q.take i) ∧ out.length <= 100 ∧ Own encU8 5 (fun g => w.heap.size <= g) wr v out ∧ Keeps NoB w wr) (fun _ i _ => 100 - (intOf i).toNat)
 case atStart => exact ⟨0, _, Nat.zero_le _, rfl, rfl, rfl, by rw [List.take_zero]; show 1 <= 100; decide, HOwn.out, HK1.out⟩
 case round =>
  rename World => wr
  obtain ⟨i, out, hj, hi3, rfl, hout, holn, hown, hkr⟩ := hrel
  have HO := Lib.hid hout
  have HW := Lib.hid hown
  have HKr := Lib.hid hkr
  clear hout hown hkr
  by_cases hlt : i < s.size
  ·obtain ⟨a, ha⟩ : ∃ a, q[i]? = some a := ⟨_, List.getElem?_eq_getElem (by rw [HQl.out]; omega)⟩
   obtain ⟨b, hb⟩ : ∃ b, q[i + 1]? = some b := ⟨_, List.getElem?_eq_getElem (by rw [HQl.out]; omega)⟩
   obtain ⟨c, hc⟩ : ∃ c, q[i + 2]? = some c := ⟨_, List.getElem?_eq_getElem (by rw [HQl.out]; omega)⟩
   have HG3 := Lib.hid (uuG_three ha hb hc hi3)
   have hpa := pad_at HQp.out ha
   have hpb := pad_at HQp.out hb
   have hpc := pad_at HQp.out hc
   obtain ⟨N, hN⟩ : ∃ N, uuN a b c = N := ⟨_, rfl⟩
   have hNl := uuN_lt a b c
   rw [hN] at HG3 hNl
   have HNd : Hid (((a.toNat : Int) * 256 + (b.toNat : Int)) * 256 + (c.toNat : Int) = (N : Int)) := Lib.hid (by rw [<- hN]; unfold uuN; omega)
   have hA : (a.toNat : Int) < 256 := by have := a.toNat_lt; omega
   have hB : (b.toNat : Int) < 256 := by have := b.toNat_lt; omega
   have hC : (c.toNat : Int) < 256 := by have := c.toNat_lt; omega
   have hI45 : (i : Int) <= 45 := by omega
   have hltI : (i : Int) < (s.size : Int) := by omega
   have x0 : ∀ wx, (Instr.index 9 (.string s) (.int .i64 (i : Int))).run Tryz.prog wx = .ok (.int .u8 (a.toNat : Int)) wx := fun wx => by
    rcases hpa with ⟨_, h⟩ | ⟨h, _⟩
    ·exact idx_str s i (i : Int) rfl a h wx
    ·omega
   have x1 : (decide ((i : Int) + 1 < (s.size : Int)) = true ∧ ∀ wx, (Instr.index 9 (.string s) (.int .i64 ((i : Int) + 1))).run Tryz.prog wx = .ok (.int .u8 (b.toNat : Int)) wx) ∨ (decide ((i : Int) + 1 < (s.size : Int)) = false ∧ (b.toNat : Int) = 0) := by
    rcases hpb with ⟨h1, h⟩ | ⟨h1, h⟩
    ·exact .inl ⟨decide_eq_true (by omega), fun wx => idx_str s (i + 1) ((i : Int) + 1) (by omega) b h wx⟩
    ·exact .inr ⟨decide_eq_false (by omega), by rw [h]; rfl⟩
   have x2 : (decide ((i : Int) + 2 < (s.size : Int)) = true ∧ ∀ wx, (Instr.index 9 (.string s) (.int .i64 ((i : Int) + 2))).run Tryz.prog wx = .ok (.int .u8 (c.toNat : Int)) wx) ∨ (decide ((i : Int) + 2 < (s.size : Int)) = false ∧ (c.toNat : Int) = 0) := by
    rcases hpc with ⟨h1, h⟩ | ⟨h1, h⟩
    ·exact .inl ⟨decide_eq_true (by omega), fun wx => idx_str s (i + 2) ((i : Int) + 2) (by omega) c h wx⟩
    ·exact .inr ⟨decide_eq_false (by omega), by rw [h]; rfl⟩
   clear ha hb hc hN hpa hpb hpc
   have hA0 : (0 : Int) <= (a.toNat : Int) := by omega
   have hB0 : (0 : Int) <= (b.toNat : Int) := by omega
   have hC0 : (0 : Int) <= (c.toNat : Int) := by omega
   generalize (a.toNat : Int) = an at *
   generalize (b.toNat : Int) = bn at *
   generalize (c.toNat : Int) = cn at *
   go_upto_region 7 with fail
   go_loopw [5, 6] (fun nv kv wz => wr = wz ∧ ((kv = .int .i64 0 ∧ nv = .int .i64 0) ∨ (kv = .int .i64 1 ∧ nv = .int .i64 an) ∨ (kv = .int .i64 2 ∧ nv = .int .i64 (an * 256 + bn)) ∨ (kv = .int .i64 3 ∧ nv = .int .i64 (N : Int)))) (fun _ kv _ => 4 - (intOf kv).toNat)
   case atStart => exact ⟨rfl, .inl ⟨rfl, rfl⟩⟩
   case round =>
    rename World => wz
    obtain ⟨rfl, hst⟩ := hrel
    rcases hst with ⟨rfl, rfl⟩ | ⟨rfl, rfl⟩ | ⟨rfl, rfl⟩ | ⟨rfl, rfl⟩
    ·go_wp2
     go_roundw
     case rel => exact ⟨trivial, .inr (.inl ⟨by go_num, by simp⟩)⟩
     case measure => (simp [intOf]) <;> omega
    ·rcases x1 with ⟨t1, x1⟩ | ⟨t1, rfl⟩
     ·go_wp2
      go_roundw
      case rel => exact ⟨trivial, .inr (.inr (.inl ⟨by go_num, by rw [Int.mul_comm]⟩))⟩
      case measure => (simp [intOf]) <;> omega
     ·go_wp2
      go_roundw
      case rel => exact ⟨trivial, .inr (.inr (.inl ⟨by go_num, by rw [Int.mul_comm, Int.add_zero]⟩))⟩
      case measure => (simp [intOf]) <;> omega
    ·rcases x2 with ⟨t2, x2⟩ | ⟨t2, rfl⟩
     ·go_wp2
      go_roundw
      case rel => exact ⟨trivial, .inr (.inr (.inr ⟨by go_num, by rw [<- HNd.out, Int.mul_comm]⟩))⟩
      case measure => (simp [intOf]) <;> omega
     ·go_wp2
      go_roundw
      case rel => exact ⟨trivial, .inr (.inr (.inr ⟨by go_num, by rw [<- HNd.out, Int.mul_comm, Int.add_zero]⟩))⟩
      case measure => (simp [intOf]) <;> omega
    ·have hd1 : (N : Int) / 262144 = ((N / 262144 % 64 : Nat) : Int) := by omega
     have hd2 : (N : Int) / 4096 % 64 = ((N / 4096 % 64 : Nat) : Int) := by omega
     have hd3 : (N : Int) / 64 % 64 = ((N / 64 % 64 : Nat) : Int) := by omega
     have hd4 : (N : Int) % 64 = ((N % 64 : Nat) : Int) := by omega
     have H1 := Lib.hid (fun w1 : World => HL.out (N / 262144 % 64) (Nat.mod_lt _ (by decide)) w1)
     have H2 := Lib.hid (fun w1 : World => HL.out (N / 4096 % 64) (Nat.mod_lt _ (by decide)) w1)
     have H3 := Lib.hid (fun w1 : World => HL.out (N / 64 % 64) (Nat.mod_lt _ (by decide)) w1)
     have H4 := Lib.hid (fun w1 : World => HL.out (N % 64) (Nat.mod_lt _ (by decide)) w1)
     have HT4 : Hid (uuL s.size :: uuG (q.take (i + 3)) = out ++ [uuL (N / 262144 % 64), uuL (N / 4096 % 64), uuL (N / 64 % 64), uuL (N % 64)]) := Lib.hid (by rw [HG3.out, HO.out]; rfl)
     have hl3 : i + 3 <= (s.size + 2) / 3 * 3 := by omega
     have HHl : Hid ((uuG (q.take (i + 3))).length <= 99) := Lib.hid (by rw [uuG_len, List.length_take, HQl.out]; omega)
     have HHl2 := Lib.hid hl3
     have hNi : (N : Int) < 16777216 := by omega
     clear hNl hl3 x0 x1 x2 hA hB hC hA0 hB0 hC0 HG3
     generalize N / 262144 % 64 = n1 at *
     generalize N / 4096 % 64 = n2 at *
     generalize N / 64 % 64 = n3 at *
     generalize N % 64 = n4 at *
     go_wp2_with (first
      | (go_at_call 132; go_loud (first | (with_reducible refine (H1.out _).mono ?_) | (with_reducible refine (H2.out _).mono ?_) | (with_reducible refine (H3.out _).mono ?_) | (with_reducible refine (H4.out _).mono ?_)); rintro e w3 ⟨rfl, rfl⟩)
      | (at_builtin; go_loud (refine wpl_append rfl (.tmp 37) (.tmp 52) rfl tU8 (HW.out.keep ((Keeps.refl NoB wr).alloc _) (fun _ _ h => h)) (own_lit (E := encU8) (e := 5) (w := wr) (S := fun _ => True) [uuL n1, uuL n2, uuL n3, uuL n4] #[.int .u8 ((uuL n1).toNat : Int), .int .u8 ((uuL n2).toNat : Int), .int .u8 ((uuL n3).toNat : Int), .int .u8 ((uuL n4).toNat : Int)] rfl 4 rfl trivial (by decide)).sl rfl rfl (by have := HKr.out.size; simp; omega) (by simp [maxLen]; omega) (by simp; omega) ?_)))
     intro v' w4 ho4 hk4 hf4
     go_wp2_with fail
     go_roundw
     case rel => exact ⟨i + 3, _, HHl2.out, by omega, by go_num, HT4.out.symm, by rw [<- HT4.out, List.length_cons]; have := HHl.out; omega, ho4, (HKr.out.alloc _).step hk4 (fun g hg => .inr (HW.out.2 g hg))⟩
     case measure => (simp [intOf]) <;> omega
  ·have hie : Hid (q.take i = q) := Lib.hid (by
    refine List.take_of_length_le ?_
    rw [HQl.out]
    omega)
   have HOe : Hid (out ++ [10] = uuL s.size :: (uuG l ++ [10])) := Lib.hid (by rw [HO.out, hie.out, HG.out]; rfl)
   have hltI : ¬ (i : Int) < (s.size : Int) := by omega
   have hzw := HKr.out.size
   go_wp2_with (at_builtin; go_loud (refine wpl_append rfl (.tmp 54) (.tmp 55) rfl tU8 (HW.out.keep ((Keeps.refl NoB wr).alloc _) (fun _ _ h => h)) (own_lit (E := encU8) (e := 5) (w := wr) (S := fun _ => True) [10] #[.int .u8 10] rfl 1 rfl trivial (by decide)).sl rfl rfl (by simp; omega) (by simp [maxLen]; omega) (by simp; omega) ?_))
   intro v' w2 ho2 hk2 hf2
   have hcv := own_str ho2
   rw [HOe.out] at hcv
   go_wp2_with fail
   go_ret
   exact ⟨rfl, (HKr.out.alloc _).step hk2 (fun g hg => .inr (HW.out.2 g hg))⟩
theorem refRest_any (s : ByteArray) (hs : s.size <= 1000000) (w : World) :
 Calls Tryz.prog 78 #[.string s] w fun e w' => e = .returned (.string ⟨(uuRest s.data.toList).toArray⟩) ∧ Keeps NoB w w' := by
 have hl := len_data s
 have HLn := Lib.hid (fun (x : ByteArray) (hx : x.size <= 45) (w1 : World) => refLine_any x hx w1)
 have HEx := Lib.hid (fun (i e : Nat) => data_extract s i e)
 have hU : (uuRest s.data.toList).length <= 2000100 := by rw [uuRest_len, hl]; have := uuSize_le s.size; omega
 generalize s.data.toList = l at *
 obtain ⟨R, hR⟩ : ∃ R : ByteArray, ⟨(uuRest l).toArray⟩ = R := ⟨_, rfl⟩
 rw [hR]
 have HR : Hid (R.data.toList = uuRest l) := Lib.hid (by rw [<- hR])
 have HU := Lib.hid hU
 have HL := Lib.hid hl
 have hs' : (s.size : Int) <= 1000000 := by omega
 clear hl hR hU
 go_enter Tryz.func78, Tryz.ntmps78
 go_upto_region 3 with fail
 go_loopw [3, 4] (fun v i wr => ∃ (k : Nat) (out : ByteArray), i = .int .i64 (k : Int) ∧ v = .string out ∧ (k : Int) <= 1000045 ∧ Keeps NoB w wr ∧ Hid (out.data.toList ++ uuRest (l.drop k) = uuRest l)) (fun _ i _ => 1000100 - (intOf i).toNat)
 case atStart => exact ⟨0, ⟨#[]⟩, rfl, rfl, by omega, Keeps.refl _ _, Lib.hid (by rw [List.drop_zero]; rfl)⟩
 case round =>
  rename World => wr
  obtain ⟨k, out, rfl, rfl, hk9, hkr, hI⟩ := hrel
  have HKr := Lib.hid hkr
  have hos : out.size + (uuRest (l.drop k)).length <= 2000100 := by
   have h1 := congrArg List.length hI.out
   rw [List.length_append, len_data] at h1
   have := HU.out
   omega
  by_cases hlt : k < s.size
  ·have hne : l.drop k ≠ [] := by
    intro h
    have := congrArg List.length h
    rw [List.length_drop, HL.out] at this
    simp at this
    omega
   have hstep := uuRest_step hne
   obtain ⟨e, he, he1, he2⟩ : ∃ e : Nat, (k < e ∧ e <= s.size ∧ e <= k + 45) ∧ (decide ((s.size : Int) < (k : Int) + 45) = true ∧ e = s.size ∨ decide ((s.size : Int) < (k : Int) + 45) = false ∧ e = k + 45) ∧ (l.take e).drop k = (l.drop k).take 45 := by
    by_cases h : s.size < k + 45
    ·refine ⟨s.size, ⟨by omega, by omega, by omega⟩, .inl ⟨decide_eq_true (by omega), rfl⟩, ?_⟩
     rw [List.take_of_length_le (by rw [HL.out]; exact Nat.le_refl _), List.take_of_length_le (by rw [List.length_drop, HL.out]; omega)]
    ·refine ⟨k + 45, ⟨by omega, by omega, by omega⟩, .inr ⟨decide_eq_false (by omega), rfl⟩, ?_⟩
     rw [List.drop_take, Nat.add_sub_cancel_left]
   obtain ⟨x, hx⟩ : ∃ x, s.extract k e = x := ⟨_, rfl⟩
   have hxs : x.size <= 45 := by rw [<- hx, ByteArray.size_extract]; omega
   have hxl : x.data.toList = (l.drop k).take 45 := by rw [<- hx, HEx.out, he2]
   have hLx := HLn.out x hxs
   rw [hxl] at hLx
   obtain ⟨y, hy⟩ : ∃ y : ByteArray, ⟨(uuLine ((l.drop k).take 45)).toArray⟩ = y := ⟨_, rfl⟩
   rw [hy] at hLx
   have hyl : y.data.toList = uuLine ((l.drop k).take 45) := by rw [<- hy]
   have hys : y.size <= 2000100 := by
    rw [<- len_data, hyl]
    have h2 := congrArg List.length hstep
    rw [List.length_append] at h2
    omega
   have HN : Hid ((out ++ y).data.toList ++ uuRest (l.drop (k + 45)) = uuRest l) := Lib.hid (by
    rw [append_toList, List.append_assoc, hyl, <- List.drop_drop, <- hstep]
    exact hI.out)
   have hcat : (9223372036854775807 < out.size + y.size) = False := by rw [eq_iff_iff, iff_false]; omega
   have HLx := Lib.hid hLx
   have hkI : (k : Int) < (s.size : Int) := by omega
   have hke : (k : Int) <= (e : Int) := by omega
   have hes : (e : Int) <= (s.size : Int) := by omega
   have hk0 : (0 : Int) <= (k : Int) := by omega
   have hkm : ((k : Nat) : Int) + 45 <= 1000045 := by omega
   clear hne hstep he he2 hxs hxl hLx hy hyl hys hI hos hkr
   rcases he1 with ⟨t, rfl⟩ | ⟨t, rfl⟩
   ·go_wp2_with (go_at_call 109; go_loud (refine (HLx.out _).mono ?_); rintro e w5 ⟨rfl, hk5⟩)
    go_roundw
    case rel => exact ⟨k + 45, _, by go_num, rfl, by omega, HKr.out.trans hk5, HN⟩
    case measure => (simp [intOf]) <;> omega
   ·go_wp2_with (go_at_call 109; go_loud (refine (HLx.out _).mono ?_); rintro e w5 ⟨rfl, hk5⟩)
    go_roundw
    case rel => exact ⟨k + 45, _, by go_num, rfl, by omega, HKr.out.trans hk5, HN⟩
    case measure => (simp [intOf]) <;> omega
  ·have hI2 := hI.out
   rw [List.drop_of_length_le (by rw [HL.out]; omega), uuRest_nil] at hI2
   have hL0 := HLn.out ⟨#[]⟩ (by decide)
   rw [show (⟨(uuLine (⟨#[]⟩ : ByteArray).data.toList).toArray⟩ : ByteArray) = ⟨#[96, 10]⟩ from rfl] at hL0
   have HL0 := Lib.hid hL0
   have hos2 : out.size <= 2000100 := by omega
   have hRe : Hid (out ++ ⟨#[96, 10]⟩ ++ ⟨#[101, 110, 100, 10]⟩ = R) := Lib.hid (by
    apply ba_eq
    rw [append_toList, append_toList, HR.out, <- hI2, List.append_assoc]
    rfl)
   have hc1 : (9223372036854775807 < out.size + (⟨#[96, 10]⟩ : ByteArray).size) = False := by rw [eq_iff_iff, iff_false, show (⟨#[96, 10]⟩ : ByteArray).size = 2 from rfl]; omega
   have hc2 : (9223372036854775807 < (out ++ ⟨#[96, 10]⟩ : ByteArray).size + (⟨#[101, 110, 100, 10]⟩ : ByteArray).size) = False := by rw [eq_iff_iff, iff_false, ByteArray.size_append, show (⟨#[96, 10]⟩ : ByteArray).size = 2 from rfl, show (⟨#[101, 110, 100, 10]⟩ : ByteArray).size = 4 from rfl]; omega
   have hkI : ¬ (k : Int) < (s.size : Int) := by omega
   clear hI hI2 hL0 hos hkr
   go_wp2_with (go_at_call 109; go_loud (refine (HL0.out _).mono ?_); rintro e w5 ⟨rfl, hk5⟩)
   go_ret
   rw [<- hRe.out]
   exact ⟨rfl, HKr.out.trans hk5⟩
end Go.Proofs.YtonkgdoaobojbaaGreatDoor
