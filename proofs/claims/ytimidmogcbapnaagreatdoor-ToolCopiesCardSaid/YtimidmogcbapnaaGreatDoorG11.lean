/-
  Contracts of package walk: Find.
-/
import Derived.Test.YtimidmogcbapnaaGreatDoorG09
import Derived.Test.YtimidmogcbapnaaGreatDoorG10

set_option linter.unusedSimpArgs false
set_option linter.unusedVariables false
set_option maxRecDepth 100000
set_option maxHeartbeats 40000000
namespace Go.Proofs.YtimidmogcbapnaaGreatDoor
open Go Go.RowKit
section
variable {R : RD} {w0 w w' : World} {a g : Nat} {d : Nds} {room us : Int} {lk up : Int -> Int}
theorem findR_succ (d : Nds) (up : Int -> Int) (follow : Bool) (fuel : Nat) (from' : Int) (s : ByteArray) (n : Nat) :
 findR d up follow (fuel + 1) from' s n = if pathErr s ≠ 0 then (.no, pathErr s)
 else if prts s = [] then (.on (if absB s then 1 else from'), intoErr d (if absB s then 1 else from'))
 else match scan d up (endS s) follow (prts s) (if absB s then 1 else from') n (.on from') with
  | .fin p => endR d p (endS s)
  | .err e => (.no, e)
  | .again at' s' n' => findR d up follow fuel at' s' n' := rfl
structure FindC (w : World) (a : Nat) (w' : World) (at' : Int) (n : Nat) (p : Plc) : Prop where
 keeps : Keeps NoB w w'
 wkr : Wkr w' (w.heap.size + 1) a at' n
 box : C3 w' w.heap.size (.int .i64 0) (.int .i64 0) (.string ⟨#[]⟩)
 pbox : C3 w' (w.heap.size + 1 + 1) (.int .i64 p.node) (.int .i64 p.dir) (.string p.name)
theorem FindC.on {w' w2 : World} {at' : Int} {n : Nat} {p : Plc} (h : FindC w a w' at' n p) (k : Keeps NoB w' w2) : FindC w a w2 at' n p :=
 ⟨h.keeps.trans k, h.wkr.on k, h.box.on k, h.pbox.on k⟩
theorem FindC.goto {w' : World} {at' : Int} {n : Nat} {p : Plc} (h : FindC w a w' at' n p) (i : Int) : FindC w a (w'.setCell ⟨w.heap.size + 1, 1, none⟩ (.int .i64 i)) i n p := by
 have k : Keeps (fun b => b = w.heap.size + 1) w' (w'.setCell ⟨w.heap.size + 1, 1, none⟩ (.int .i64 i)) := Keeps.setCell (F := fun b => b = w.heap.size + 1) (Keeps.refl _ w') (p := ⟨w.heap.size + 1, 1, none⟩) (Or.inl rfl) _
 exact ⟨h.keeps.setCell (p := ⟨w.heap.size + 1, 1, none⟩) (Or.inr (Nat.le_succ _)) _, h.wkr.goto i, h.box.keep k (by omega), h.pbox.keep k (by omega)⟩
theorem FindC.step {w' w2 : World} {at' at2 : Int} {n m : Nat} {p : Plc} (h : FindC w a w' at' n p) (k : Keeps (fun b => b = w.heap.size + 1) w' w2) (hw : Wkr w2 (w.heap.size + 1) a at2 m) : FindC w a w2 at2 m p :=
 ⟨h.keeps.step k (fun g hg => .inr (by omega)), hw, h.box.keep k (by omega), h.pbox.keep k (by omega)⟩
theorem keeps_put (w' : World) (b : Nat) (v0 v1 v2 : Value) : Keeps (fun x => x = b) w' (((w'.setCell ⟨b, 0, none⟩ v0).setCell ⟨b, 1, none⟩ v1).setCell ⟨b, 2, none⟩ v2) :=
 Keeps.setCell (F := fun x => x = b) (Keeps.setCell (F := fun x => x = b) (Keeps.setCell (F := fun x => x = b) (Keeps.refl _ w') (p := ⟨b, 0, none⟩) (Or.inl rfl) _) (p := ⟨b, 1, none⟩) (Or.inl rfl) _) (p := ⟨b, 2, none⟩) (Or.inl rfl) _
theorem keeps_one (w' : World) (b i : Nat) (v : Value) : Keeps (fun x => x = b) w' (w'.setCell ⟨b, i, none⟩ v) := Keeps.setCell (F := fun x => x = b) (Keeps.refl _ w') (p := ⟨b, i, none⟩) (Or.inl rfl) _
theorem FindC.put {w' : World} {at' : Int} {n : Nat} {p : Plc} (h : FindC w a w' at' n p) (q : Plc) :
 FindC w a (((w'.setCell ⟨w.heap.size + 1 + 1, 0, none⟩ (.int .i64 q.node)).setCell ⟨w.heap.size + 1 + 1, 1, none⟩ (.int .i64 q.dir)).setCell ⟨w.heap.size + 1 + 1, 2, none⟩ (.string q.name)) at' n q :=
 have k := keeps_put w' (w.heap.size + 1 + 1) (.int .i64 q.node) (.int .i64 q.dir) (.string q.name)
 ⟨h.keeps.step k (fun g hg => .inr (by omega)), h.wkr.keep k (by omega), h.box.keep k (by omega), h.pbox.set _ _ _⟩
structure FindJ (d : Nds) (up : Int -> Int) (follow : Bool) (F : Plc × Int) (w : World) (a : Nat) (w' : World) (s : ByteArray) (at' : Int) (n fuel : Nat) (p : Plc) : Prop where
 size : s.size <= 4294967280
 n40 : n <= 40
 fu : 41 <= n + fuel
 eq : findR d up follow fuel at' s n = F
 cs : FindC w a w' at' n p
structure FindK (d : Nds) (up : Int -> Int) (slash follow : Bool) (O : Out) (l : List ByteArray) (w : World) (a : Nat) (w' : World) (p1 : Option Addr) (c1 k : Nat) (at' : Int) (n0 n : Nat) (p : Plc) : Prop where
 le : k <= l.length
 n40 : n <= 40
 n0 : n0 <= n
 eq : scan d up slash follow (l.drop k) at' n p = O
 cs : FindC w a w' at' n p
 row : SlAt encStr (fun g => w.heap.size + 1 + 1 < g) w' p1 c1 l
theorem scan_cons (d : Nds) (up : Int -> Int) (slash follow : Bool) (x : ByteArray) (r : List ByteArray) (at' : Int) (n : Nat) (p : Plc) : scan d up slash follow (x :: r) at' n p =
 if (stepR d up at' x (!r.isEmpty || slash || follow) n).e ≠ 0 then .err (stepR d up at' x (!r.isEmpty || slash || follow) n).e
 else if (stepR d up at' x (!r.isEmpty || slash || follow) n).t ≠ ⟨#[]⟩ then .again at' (restB (stepR d up at' x (!r.isEmpty || slash || follow) n).t r slash) (stepR d up at' x (!r.isEmpty || slash || follow) n).n
 else if (stepR d up at' x (!r.isEmpty || slash || follow) n).p.node = 0 ∧ r ≠ [] then .err 12
 else scan d up slash follow r (stepR d up at' x (!r.isEmpty || slash || follow) n).p.node (stepR d up at' x (!r.isEmpty || slash || follow) n).n (stepR d up at' x (!r.isEmpty || slash || follow) n).p := rfl
theorem dataOf_size {d : Nds} (hI : DInv d) (i : Int) : (dataOf d i).size <= 4194304 := by
 unfold dataOf
 split
 ·exact Nat.zero_le _
 split
 ·exact Nat.zero_le _
 ·exact (hI.node i).data
theorem stepR_t {d : Nds} (hI : DInv d) (up : Int -> Int) (at' : Int) (x : ByteArray) (follow : Bool) (n : Nat) : (stepR d up at' x follow n).t.size <= 4194304 := by
 unfold stepR
 split; · exact Nat.zero_le _
 split; · exact Nat.zero_le _
 split; · exact Nat.zero_le _
 split; · exact Nat.zero_le _
 split; · exact Nat.zero_le _
 split; · exact Nat.zero_le _
 split
 ·exact Nat.zero_le _
 ·exact dataOf_size hI _
theorem goes_cases (k : Nat) (l : List ByteArray) (sl follow fl : Bool) (hk : k < l.length) (h : fl = (!(l.drop (k + 1)).isEmpty || sl || follow)) :
 (((k : Int) == (l.length : Int) - 1) = false ∧ l.drop (k + 1) ≠ [] ∧ fl = true) ∨ (((k : Int) == (l.length : Int) - 1) = true ∧ l.drop (k + 1) = [] ∧ sl = true ∧ fl = true) ∨ (((k : Int) == (l.length : Int) - 1) = true ∧ l.drop (k + 1) = [] ∧ sl = false ∧ fl = follow) := by
 by_cases hl : k + 1 = l.length
 ·have e : l.drop (k + 1) = [] := List.drop_eq_nil_of_le (by omega)
  have hb : ((k : Int) == (l.length : Int) - 1) = true := by simp; omega
  rw [e] at h
  cases sl with
  | true => exact .inr (.inl ⟨hb, e, rfl, by simpa using h⟩)
  | false => exact .inr (.inr ⟨hb, e, rfl, by simpa using h⟩)
 ·have e : l.drop (k + 1) ≠ [] := by simp; omega
  have hb : ((k : Int) == (l.length : Int) - 1) = false := by simp; omega
  have e2 : (l.drop (k + 1)).isEmpty = false := by simpa using e
  exact .inl ⟨hb, e, by rw [h, e2]; simp⟩
def FindA (d : Nds) (up : Int -> Int) (follow : Bool) (F : Plc × Int) (w : World) (a : Nat) (from' : Int) (a' : Act) (w' : World) : Prop :=
 ∃ (fz : Nat -> Value) (s : ByteArray) (at' : Int) (n fuel : Nat) (p : Plc), a' = { tmps := List.toArray (.pointer (some ⟨a, 0, none⟩) :: .int .i64 from' :: .string s :: .bool follow :: fz 4 :: fz 5 :: fz 6 :: fz 7 :: .pointer (some ⟨w.heap.size, 0, none⟩) :: fz 9 :: .pointer (some ⟨w.heap.size + 1, 0, none⟩) :: .pointer (some ⟨w.heap.size + 1 + 1, 0, none⟩) :: fz 12 :: fz 13 :: fz 14 :: fz 15 :: fz 16 :: fz 17 :: fz 18 :: fz 19 :: fz 20 :: fz 21 :: fz 22 :: fz 23 :: fz 24 :: fz 25 :: fz 26 :: fz 27 :: fz 28 :: fz 29 :: fz 30 :: fz 31 :: fz 32 :: fz 33 :: fz 34 :: fz 35 :: fz 36 :: fz 37 :: fz 38 :: fz 39 :: fz 40 :: fz 41 :: fz 42 :: fz 43 :: fz 44 :: fz 45 :: fz 46 :: fz 47 :: fz 48 :: fz 49 :: fz 50 :: fz 51 :: fz 52 :: fz 53 :: fz 54 :: fz 55 :: fz 56 :: fz 57 :: fz 58 :: fz 59 :: fz 60 :: fz 61 :: fz 62 :: fz 63 :: fz 64 :: fz 65 :: fz 66 :: fz 67 :: fz 68 :: fz 69 :: fz 70 :: fz 71 :: fz 72 :: fz 73 :: fz 74 :: fz 75 :: fz 76 :: fz 77 :: fz 78 :: fz 79 :: fz 80 :: fz 81 :: fz 82 :: fz 83 :: fz 84 :: fz 85 :: fz 86 :: fz 87 :: fz 88 :: fz 89 :: fz 90 :: fz 91 :: fz 92 :: fz 93 :: fz 94 :: fz 95 :: fz 96 :: fz 97 :: fz 98 :: fz 99 :: fz 100 :: fz 101 :: fz 102 :: fz 103 :: fz 104 :: fz 105 :: fz 106 :: fz 107 :: fz 108 :: fz 109 :: fz 110 :: fz 111 :: fz 112 :: fz 113 :: fz 114 :: fz 115 :: fz 116 :: fz 117 :: fz 118 :: fz 119 :: fz 120 :: fz 121 :: fz 122 :: fz 123 :: fz 124 :: fz 125 :: []), defers := [] } ∧ FindJ d up follow F w a w' s at' n fuel p
theorem FindA.mk {F : Plc × Int} {follow : Bool} {from' : Int} {a' : Act} {s : ByteArray} {at' : Int} {n fuel : Nat} {p : Plc} (h : (fun fz : Nat -> Value => a' = { tmps := List.toArray (.pointer (some ⟨a, 0, none⟩) :: .int .i64 from' :: .string s :: .bool follow :: fz 4 :: fz 5 :: fz 6 :: fz 7 :: .pointer (some ⟨w.heap.size, 0, none⟩) :: fz 9 :: .pointer (some ⟨w.heap.size + 1, 0, none⟩) :: .pointer (some ⟨w.heap.size + 1 + 1, 0, none⟩) :: fz 12 :: fz 13 :: fz 14 :: fz 15 :: fz 16 :: fz 17 :: fz 18 :: fz 19 :: fz 20 :: fz 21 :: fz 22 :: fz 23 :: fz 24 :: fz 25 :: fz 26 :: fz 27 :: fz 28 :: fz 29 :: fz 30 :: fz 31 :: fz 32 :: fz 33 :: fz 34 :: fz 35 :: fz 36 :: fz 37 :: fz 38 :: fz 39 :: fz 40 :: fz 41 :: fz 42 :: fz 43 :: fz 44 :: fz 45 :: fz 46 :: fz 47 :: fz 48 :: fz 49 :: fz 50 :: fz 51 :: fz 52 :: fz 53 :: fz 54 :: fz 55 :: fz 56 :: fz 57 :: fz 58 :: fz 59 :: fz 60 :: fz 61 :: fz 62 :: fz 63 :: fz 64 :: fz 65 :: fz 66 :: fz 67 :: fz 68 :: fz 69 :: fz 70 :: fz 71 :: fz 72 :: fz 73 :: fz 74 :: fz 75 :: fz 76 :: fz 77 :: fz 78 :: fz 79 :: fz 80 :: fz 81 :: fz 82 :: fz 83 :: fz 84 :: fz 85 :: fz 86 :: fz 87 :: fz 88 :: fz 89 :: fz 90 :: fz 91 :: fz 92 :: fz 93 :: fz 94 :: fz 95 :: fz 96 :: fz 97 :: fz 98 :: fz 99 :: fz 100 :: fz 101 :: fz 102 :: fz 103 :: fz 104 :: fz 105 :: fz 106 :: fz 107 :: fz 108 :: fz 109 :: fz 110 :: fz 111 :: fz 112 :: fz 113 :: fz 114 :: fz 115 :: fz 116 :: fz 117 :: fz 118 :: fz 119 :: fz 120 :: fz 121 :: fz 122 :: fz 123 :: fz 124 :: fz 125 :: []), defers := [] }) (fun i => a'.tmps.toList.getD i undef))
 (J : FindJ d up follow F w a w' s at' n fuel p) : FindA d up follow F w a from' a' w' := ⟨fun i => a'.tmps.toList.getD i undef, s, at', n, fuel, p, h, J⟩
theorem wfind_any (h : Rep R w a d room us lk up) (hI : DInv d) (hs : smallD d) (from' : Int) (s0 : ByteArray) (follow : Bool) (hsz : s0.size <= 4294967280) :
 Calls Tryz.prog 21 #[.pointer (some ⟨a, 0, none⟩), .int .i64 from', .string s0, .bool follow] w fun e w' =>
  e = .returned (.tuple #[plcV (findR d up follow 41 from' s0 0).1, .int .i64 (findR d up follow 41 from' s0 0).2]) ∧ Keeps NoB w w' := by
 obtain ⟨F, hF⟩ : ∃ F, findR d up follow 41 from' s0 0 = F := ⟨_, rfl⟩
 rw [hF]
 have HF := Lib.hid hF
 clear hF
 go_enter Tryz.func21, Tryz.ntmps21
 go_wp2
 refine wp_scope_goto 0 (FindA d up follow F w a from') (fun _ w' => 41 - (intOf ((w'.cell? ⟨w.heap.size + 1, 2, none⟩).getD undef)).toNat) rfl ?_ ?_
 ·intro HJ
  have HJ' := Lib.hid HJ
  clear HJ
  go_wp2
  go_step3
  go_step
  go_step
  refine HJ'.out _ _ ?_
  refine FindA.mk (s := s0) (at' := from') (n := 0) (fuel := 41) (p := .on from') rfl ?_
  have e1 : (w.alloc (.cells #[.int .i64 0, .int .i64 0, .string ⟨#[]⟩] 60)).heap.size = w.heap.size + 1 := by simp
  have k1 : Keeps NoB w (w.alloc (.cells #[.int .i64 0, .int .i64 0, .string ⟨#[]⟩] 60)) := (Keeps.refl _ _).alloc _
  have KB := c3_new (Keeps.refl NoB (w.alloc (.cells #[.int .i64 0, .int .i64 0, .string ⟨#[]⟩] 60)))
  generalize w.alloc (.cells #[.int .i64 0, .int .i64 0, .string ⟨#[]⟩] 60) = wa at *
  have e2 : (wa.alloc (.cells #[.pointer (some ⟨a, 0, none⟩), .int .i64 from', .int .i64 0, .bool false] 93)).heap.size = w.heap.size + 1 + 1 := by simp [e1]
  have k2 : Keeps NoB wa (wa.alloc (.cells #[.pointer (some ⟨a, 0, none⟩), .int .i64 from', .int .i64 0, .bool false] 93)) := (Keeps.refl _ _).alloc _
  have KW : Wkr (wa.alloc (.cells #[.pointer (some ⟨a, 0, none⟩), .int .i64 from', .int .i64 0, .bool false] 93)) wa.heap.size a from' 0 :=
   ⟨by simp, boxed (Keeps.refl NoB _) 0 _ rfl, boxed (Keeps.refl NoB _) 1 _ rfl, boxed (Keeps.refl NoB _) 2 _ rfl, boxedz (Keeps.refl NoB _)⟩
  rw [e1] at KW
  generalize wa.alloc (.cells #[.pointer (some ⟨a, 0, none⟩), .int .i64 from', .int .i64 0, .bool false] 93) = wb at *
  have k3 : Keeps NoB wb (wb.alloc (.cells #[.int .i64 from', .int .i64 0, .string ⟨#[]⟩] 60)) := (Keeps.refl _ _).alloc _
  have KP := c3_new (Keeps.refl NoB (wb.alloc (.cells #[.int .i64 from', .int .i64 0, .string ⟨#[]⟩] 60)))
  rw [e2] at KP
  exact FindJ.mk hsz (by decide) (by decide) HF.out ⟨(k1.trans k2).trans k3, KW.on k3, KB.on (k2.trans k3), KP⟩
 ·rintro a' w1 ⟨fz, s, at', n, fuel, p, rfl, J⟩
  have hfu := J.fu
  have h40 := J.n40
  have hsz1 := J.size
  have CC := J.cs
  obtain ⟨fuel, rfl⟩ : ∃ f, fuel = f + 1 := ⟨fuel - 1, by omega⟩
  have HE := J.eq
  rw [findR_succ] at HE
  have HIb := Lib.hid (fun wx : World => ib_any s 0 wx)
  have HAb := Lib.hid (fun wx : World => abs_any s wx)
  have B0 := CC.box.c0; have B1 := CC.box.c1; have B2 := CC.box.c2; have FB := CC.box.fz; have C0 := CC.wkr.c0; have C1 := CC.wkr.c1; have C2 := CC.wkr.c2; have FZ := CC.wkr.fz; have P0 := CC.pbox.c0; have P1 := CC.pbox.c1; have P2 := CC.pbox.c2; have FP := CC.pbox.fz; have zlt := CC.box.lt; have zlg := CC.wkr.lt; have zlp := CC.pbox.lt; have k0 := CC.keeps
  by_cases h1 : s = ⟨#[]⟩
  ·subst h1
   rw [if_pos (show pathErr ⟨#[]⟩ ≠ 0 by decide)] at HE
   have HQ := Lib.hid HE
   clear HE J HIb HAb
   go_wp2_with fail
   (try simp only [Exit.jump, Exit.inBlock, Exit.then])
   refine bodyPost_ret (v := .tuple #[plcV .no, .int .i64 12]) ?_ rfl ?_
   ·rw [results_cell_tmp rfl]; unfold plcV Plc.no; go_simp
   ·refine ⟨by rw [<- HQ.out]; rfl, ?_⟩
    (repeat (first | with_reducible assumption | (with_reducible exact Keeps.refl _ _) | (with_reducible refine Keeps.drew ?_) | (with_reducible refine Keeps.alloc ?_ _) | (with_reducible refine Keeps.setCell ?_ (by first | exact Or.inl rfl | exact Or.inr (Nat.le_refl _) | exact Or.inr (by first | (simp; done) | (simp; omega))) _)))
  have hne := notEmpty_eq h1
  have hne' : s.toList.isEmpty = false := by simpa using hne
  by_cases h2 : 4095 < s.size
  ·have hp : pathErr s = 18 := by unfold pathErr; rw [if_neg h1, if_pos h2]
   have h2' : (4095 : Int) < (s.size : Int) := by omega
   rw [hp, if_pos (by decide)] at HE
   have HQ := Lib.hid HE
   clear HE J HIb HAb hp
   go_wp2_with fail
   (try simp only [Exit.jump, Exit.inBlock, Exit.then])
   refine bodyPost_ret (v := .tuple #[plcV .no, .int .i64 18]) ?_ rfl ?_
   ·rw [results_cell_tmp rfl]; unfold plcV Plc.no; go_simp
   ·refine ⟨by rw [<- HQ.out], ?_⟩
    (repeat (first | with_reducible assumption | (with_reducible exact Keeps.refl _ _) | (with_reducible refine Keeps.drew ?_) | (with_reducible refine Keeps.alloc ?_ _) | (with_reducible refine Keeps.setCell ?_ (by first | exact Or.inl rfl | exact Or.inr (Nat.le_refl _) | exact Or.inr (by first | (simp; done) | (simp; omega))) _)))
  have h2' : ¬ (4095 : Int) < (s.size : Int) := by omega
  obtain ⟨bi, hbi⟩ : ∃ bi, bIdx s (0 : Int).toNat.toUInt8 = bi := ⟨_, rfl⟩
  have hpe : pathErr s = if 0 <= bi then 11 else 0 := by unfold pathErr; rw [if_neg h1, if_neg h2, <- hbi]; rfl
  rw [hbi] at HIb
  by_cases h3 : 0 <= bi
  ·rw [hpe, if_pos h3, if_pos (by decide)] at HE
   have HQ := Lib.hid HE
   clear HE J HAb hpe hbi
   go_wp2_with (first | (go_at_call 42; go_loud (refine (HIb.out _).mono ?_); rintro e w' ⟨rfl, zwe⟩; subst zwe) | (go_at_call 43; go_loud (refine (HAb.out _).mono ?_); rintro e w' ⟨rfl, zwe⟩; subst zwe))
   (try simp only [Exit.jump, Exit.inBlock, Exit.then])
   refine bodyPost_ret (v := .tuple #[plcV .no, .int .i64 11]) ?_ rfl ?_
   ·rw [results_cell_tmp rfl]; unfold plcV Plc.no; go_simp
   ·refine ⟨by rw [<- HQ.out], ?_⟩
    (repeat (first | with_reducible assumption | (with_reducible exact Keeps.refl _ _) | (with_reducible refine Keeps.drew ?_) | (with_reducible refine Keeps.alloc ?_ _) | (with_reducible refine Keeps.setCell ?_ (by first | exact Or.inl rfl | exact Or.inr (Nat.le_refl _) | exact Or.inr (by first | (simp; done) | (simp; omega))) _)))
  rw [hpe, if_neg h3, if_neg (by simp)] at HE
  clear hpe hbi
  have HPa := Lib.hid (fun wx : World => parts_any s wx (by omega))
  have HSf := Lib.hid (fun wx : World => hs1 s wx (by omega))
  have hl1 : (prts s).length <= 4096 := by have := prts_length s; omega
  have HZ := Lib.hid (fun x hx => Nat.le_trans (prts_size s x hx) (by omega : s.size <= 4095))
  obtain ⟨l, hl⟩ : ∃ l, prts s = l := ⟨_, rfl⟩
  obtain ⟨sl, hsl0⟩ : ∃ sl, endS s = sl := ⟨_, rfl⟩
  obtain ⟨ab, hab⟩ : ∃ ab, absB s = ab := ⟨_, rfl⟩
  rw [hl] at HPa HE hl1 HZ
  rw [hsl0] at HSf HE
  rw [hab] at HAb HE
  have HE' := Lib.hid HE
  clear HE J hl hsl0 hab
  have HE := HE'
  clear HE'
  obtain ⟨at0, hat0⟩ : ∃ at0 : Int, at0 = if ab = true then 1 else at' := ⟨_, rfl⟩
  rw [<- hat0] at HE
  cases ab
  all_goals
   (first | (rw [if_pos rfl] at hat0; have C2' := CC.goto 1) | (rw [if_neg (by simp)] at hat0; have C2' := CC))
   go_upto_region 13 with (first | (go_at_call 42; go_loud (refine (HIb.out _).mono ?_); rintro e w' ⟨rfl, zwe⟩; subst zwe) | (go_at_call 43; go_loud (refine (HAb.out _).mono ?_); rintro e w' ⟨rfl, zwe⟩; subst zwe) | (go_at_call 44; go_loud (refine (HPa.out _).mono ?_); rintro e w2 ⟨v, rfl, hown, hk2⟩; obtain ⟨p1, c1, rfl, hsl0⟩ := hown.sl; have hsl : SlAt encStr (fun g => w.heap.size + 1 + 1 < g) w2 p1 c1 l := SlAt.keepS hsl0 (Keeps.refl NoB _) (fun _ _ _ h => h) (fun g hg _ => by have := C2'.pbox.lt; omega); clear hsl0; replace C2' := C2'.on hk2) | (go_at_call 45; go_loud (refine (HSf.out _).mono ?_); rintro e w' ⟨rfl, zwe⟩; subst zwe))
   have HM := Lib.hid C2
   rw [<- hat0] at C2'
   clear CC hat0
   clear B0 B1 B2 FB C0 C1 C2 FZ P0 P1 P2 FP zlt zlg zlp k0
   have CC := C2'
   clear C2' hk2 hown HIb HAb HPa HSf HF hne hne' h1 h2 h2'
   generalize w' = w2 at *
   have HI5 := Lib.hid (fun (w1 : World) (hk : Keeps NoB w w1) (hw : Wkr w1 (w.heap.size + 1) a at0 n) => into_any h hk hw hI)
   by_cases hl : l = []
   ·have HE1 := HE.out
    rw [if_pos hl] at HE1
    replace HE1 := Lib.hid HE1
    clear HE
    subst hl
    have B0 := CC.box.c0; have B1 := CC.box.c1; have B2 := CC.box.c2; have FB := CC.box.fz; have C0 := CC.wkr.c0; have C1 := CC.wkr.c1; have C2 := CC.wkr.c2; have FZ := CC.wkr.fz; have P0 := CC.pbox.c0; have P1 := CC.pbox.c1; have P2 := CC.pbox.c2; have FP := CC.pbox.fz; have zlt := CC.box.lt; have zlg := CC.wkr.lt; have zlp := CC.pbox.lt; have k0 := CC.keeps
    obtain ⟨ie, hie⟩ : ∃ ie, intoErr d at0 = ie := ⟨_, rfl⟩
    rw [hie] at HI5 HE1
    clear hie
    go_upto_region 14 with fail
    go_cut [9] from 53 to 59 (fun x wx => x = .int .i64 ie ∧ C3 wx w.heap.size (.int .i64 at0) (.int .i64 0) (.string ⟨#[]⟩) ∧ Keeps NoB w wx)
    case first =>
     have kr := Keeps.refl NoB w2
     have krd := kr.drew
     have CD := CC.on krd
     have hgB : ¬ w.heap.size + 1 = w.heap.size := by omega
     have wk := CC.wkr
     have d0 := CD.wkr.c0
     have d1 := CD.wkr.c1
     have e0 := CD.box.c0
     have e1 := CD.box.c1
     have e2 := CD.box.c2
     have ez := CD.box.fz
     have CB := CD.box
     have wkd := CD.wkr
     go_region_held3 (fun wz => wz.cell? ⟨w.heap.size + 1, 0, none⟩ = some (.pointer (some ⟨a, 0, none⟩)) ∧ wz.cell? ⟨w.heap.size + 1, 1, none⟩ = some (.int .i64 at0) ∧ Wkr wz (w.heap.size + 1) a at0 n ∧ Keeps NoB w wz)
      (refine ⟨?_, ?_, ?_, ?_⟩ <;> first | with_reducible assumption | (with_reducible refine (Wkr.c0 (a := a) (n := n) (at' := at0) ?_); (repeat (first | with_reducible assumption | (with_reducible refine Wkr.set ?_ (by first | exact hgB | (simp; omega)) _ _) | (with_reducible refine Wkr.alloc ?_ _) | (with_reducible refine Wkr.drew ?_))); done) | (with_reducible refine (Wkr.c1 (a := a) (n := n) (at' := at0) ?_); (repeat (first | with_reducible assumption | (with_reducible refine Wkr.set ?_ (by first | exact hgB | (simp; omega)) _ _) | (with_reducible refine Wkr.alloc ?_ _) | (with_reducible refine Wkr.drew ?_))); done) | ((repeat (first | with_reducible assumption | (with_reducible refine Wkr.set ?_ (by first | exact hgB | (simp; omega)) _ _) | (with_reducible refine Wkr.alloc ?_ _) | (with_reducible refine Wkr.drew ?_))); done) | ((repeat (first | with_reducible assumption | (with_reducible exact Keeps.refl _ _) | (with_reducible refine Keeps.drew ?_) | (with_reducible refine Keeps.alloc ?_ _) | (with_reducible refine Keeps.setCell ?_ (by first | exact Or.inl rfl | exact Or.inr (Nat.le_refl _) | exact Or.inr (by first | (simp; done) | (simp; omega))) _))); done))
      (first | (go_at_call 46; refine (HI5.out _ (by (repeat (first | with_reducible assumption | (with_reducible exact Keeps.refl _ _) | (with_reducible refine Keeps.drew ?_) | (with_reducible refine Keeps.alloc ?_ _) | (with_reducible refine Keeps.setCell ?_ (by first | exact Or.inl rfl | exact Or.inr (Nat.le_refl _) | exact Or.inr (by first | (simp; done) | (simp; omega))) _)))) (by (repeat (first | with_reducible assumption | (with_reducible refine Wkr.set ?_ (by first | exact hgB | (simp; omega)) _ _) | (with_reducible refine Wkr.alloc ?_ _) | (with_reducible refine Wkr.drew ?_))))).mono ?_; rintro e w3 ⟨rfl, hk3⟩; have zk : Keeps NoB w w3 := Keeps.trans (by (repeat (first | with_reducible assumption | (with_reducible exact Keeps.refl _ _) | (with_reducible refine Keeps.drew ?_) | (with_reducible refine Keeps.alloc ?_ _) | (with_reducible refine Keeps.setCell ?_ (by first | exact Or.inl rfl | exact Or.inr (Nat.le_refl _) | exact Or.inr (by first | (simp; done) | (simp; omega))) _)))) hk3; have zw : Wkr w3 (w.heap.size + 1) a at0 n := Wkr.on (by (repeat (first | with_reducible assumption | (with_reducible refine Wkr.set ?_ (by first | exact hgB | (simp; omega)) _ _) | (with_reducible refine Wkr.alloc ?_ _) | (with_reducible refine Wkr.drew ?_)))) hk3; have z0 := zw.c0; have z1 := zw.c1; (first | (with_reducible have zb := C3.on CB hk3) | (with_reducible have zb := C3.on (C3.set CB (.int .i64 at0) (.int .i64 0) (.string ⟨#[]⟩)) hk3)); have b0 := zb.c0; have b1 := zb.c1; have b2 := zb.c2; have bf := zb.fz; have bl := zb.lt))
     all_goals (go_wp2_with fail; go_meet)
     all_goals (refine ⟨rfl, ?_, ?_⟩ <;> first | with_reducible assumption | (with_reducible exact C3.set zb _ _ _) | ((repeat (first | with_reducible assumption | (with_reducible exact Keeps.refl _ _) | (with_reducible refine Keeps.drew ?_) | (with_reducible refine Keeps.alloc ?_ _) | (with_reducible refine Keeps.setCell ?_ (by first | exact Or.inl rfl | exact Or.inr (Nat.le_refl _) | exact Or.inr (by first | (simp; done) | (simp; omega))) _))); done))
    case rest =>
     obtain ⟨rfl, hb, hk⟩ := hcut
     clear B0 B1 B2 FB C0 C1 C2 FZ P0 P1 P2 FP zlt zlg zlp k0
     have b0 := hb.c0
     have b1 := hb.c1
     have b2 := hb.c2
     go_wp2_with fail
     (try simp only [Exit.jump, Exit.inBlock, Exit.then])
     refine bodyPost_ret (v := .tuple #[plcV (.on at0), .int .i64 ie]) ?_ rfl ?_
     ·rw [results_cell_tmp rfl]; unfold plcV Plc.on; go_simp
     ·exact ⟨by rw [<- HE1.out], hk⟩
   ·have HE1 := HE.out
    rw [if_neg hl] at HE1
    have hlen : 1 <= l.length := by
     rcases l with _ | ⟨x, r⟩
     ·exact absurd rfl hl
     ·simp
    rw [scan_p hl _ p] at HE1
    obtain ⟨O, hO⟩ : ∃ O, scan d up sl follow l at0 n p = O := ⟨_, rfl⟩
    rw [hO] at HE1
    replace HE1 := Lib.hid HE1
    have HO := Lib.hid hO
    clear HE hO hl
    have hcap := hsl.cap
    have hmax := hsl.max
    unfold maxLen at hmax
    have hl0 : ((l.length : Int) == 0) = false := beq_eq_false_iff_ne.2 (by omega)
    go_upto_region 15 with fail
    go_wp2_with fail
    (try rw [hl0])
    go_loopw [62] (fun i wr => ∃ (k n' : Nat) (at2 : Int) (p' : Plc), i = .int .i64 k ∧ FindK d up sl follow O l w a wr p1 c1 k at2 n n' p') (fun i _ => l.length - (intOf i).toNat)
    case atStart => exact ⟨0, n, at0, p, rfl, ⟨Nat.zero_le _, h40, Nat.le_refl _, by rw [List.drop_zero]; exact HO.out, CC, hsl⟩⟩
    case round =>
     rename_i wr
     obtain ⟨k, n', at2, p', rfl, J⟩ := hrel
     clear CC hsl
     have hk := J.le
     have hn4 := J.n40
     have hn0 := J.n0
     have CC := J.cs
     by_cases hlt : k < l.length
     ·obtain ⟨x, hx⟩ : ∃ x, l[k]? = some x := ⟨_, List.getElem?_eq_getElem hlt⟩
      obtain ⟨gb, off, rfl, hS, hg, c0⟩ := J.row.str hx
      have hsc := J.eq
      rw [List.drop_eq_getElem_cons hlt, show l[k] = x from Option.some.inj ((List.getElem?_eq_getElem hlt).symm.trans hx), scan_cons] at hsc
      obtain ⟨fl, hfl⟩ : ∃ fl, fl = (!(l.drop (k + 1)).isEmpty || sl || follow) := ⟨_, rfl⟩
      rw [<- hfl] at hsc
      have HSt := Lib.hid (step_any h CC.keeps (show w.heap.size <= w.heap.size + 1 by omega) CC.wkr hI hs x fl hn4)
      have hq1 := stepR_n d up at2 x fl n'
      have hq2 := stepR_t hI up at2 x fl n'
      have HJr := Lib.hid J.row
      obtain ⟨Q, hQ⟩ : ∃ Q, stepR d up at2 x fl n' = Q := ⟨_, rfl⟩
      rw [hQ] at hsc HSt hq1 hq2
      have hgc := goes_cases k l sl follow fl hlt hfl
      obtain ⟨sk, hsk⟩ : ∃ sk : Bool, sk = sl := ⟨_, rfl⟩
      have HS2 := HE1.out
      rw [<- hsk] at HS2 hsc
      replace hsk := Lib.hid hsk
      clear HE1
      have HE1 := Lib.hid HS2
      clear HS2 HO
      replace hsc := Lib.hid hsc
      replace hq1 := Lib.hid hq1
      clear hQ hfl hx J
      have B0 := CC.box.c0; have B1 := CC.box.c1; have B2 := CC.box.c2; have FB := CC.box.fz; have C0 := CC.wkr.c0; have C1 := CC.wkr.c1; have C2 := CC.wkr.c2; have FZ := CC.wkr.fz; have P0 := CC.pbox.c0; have P1 := CC.pbox.c1; have P2 := CC.pbox.c2; have FP := CC.pbox.fz; have zlt := CC.box.lt; have zlg := CC.wkr.lt; have zlp := CC.pbox.lt; have k0 := CC.keeps
      rcases hgc with ⟨hb, hr, rfl⟩ | ⟨hb, hr, rfl, rfl⟩ | ⟨hb, hr, rfl, rfl⟩
      all_goals
       replace hr := Lib.hid hr
       go_upto_region 20 with (first | (go_at_call 47; go_loud (refine HSt.out.mono ?_); rintro e w3 ⟨rfl, hk3, hw3⟩; unfold plcV))
      all_goals
       have hqb : w.heap.size + 1 + 1 < w3.heap.size := (CC.step hk3 hw3).pbox.lt
       have C4 := (CC.step hk3 hw3).on ((Keeps.refl NoB w3).alloc (.cells #[.int .i64 Q.p.node, .int .i64 Q.p.dir, .string Q.p.name] 60))
       have r4 := (HJr.out.keep hk3 (fun g (hg : w.heap.size + 1 + 1 < g) _ e => by omega)).keepN ((Keeps.refl NoB w3).alloc (.cells #[.int .i64 Q.p.node, .int .i64 Q.p.dir, .string Q.p.name] 60))
       have KQ := c3_new (Keeps.refl NoB (w3.alloc (.cells #[.int .i64 Q.p.node, .int .i64 Q.p.dir, .string Q.p.name] 60)))
       clear B0 B1 B2 FB C0 C1 C2 FZ P0 P1 P2 FP zlt zlg zlp k0
       clear HSt HJr CC hk3 hw3 c0 hg
       generalize w3.alloc (.cells #[.int .i64 Q.p.node, .int .i64 Q.p.dir, .string Q.p.name] 60) = w4 at *
       generalize w3.heap.size = qb at *
       have CC := C4
       clear C4
       have q0 := KQ.c0
       have q1 := KQ.c1
       have q2 := KQ.c2
       have ql := KQ.lt
       clear KQ
       have B0 := CC.box.c0; have B1 := CC.box.c1; have B2 := CC.box.c2; have FB := CC.box.fz; have C0 := CC.wkr.c0; have C1 := CC.wkr.c1; have C2 := CC.wkr.c2; have FZ := CC.wkr.fz; have P0 := CC.pbox.c0; have P1 := CC.pbox.c1; have P2 := CC.pbox.c2; have FP := CC.pbox.fz; have zlt := CC.box.lt; have zlg := CC.wkr.lt; have zlp := CC.pbox.lt; have k0 := CC.keeps
       by_cases he : Q.e ≠ 0
       ·have hO := hsc.out
        rw [if_pos he] at hO
        subst hO
        have HF1 := HE1.out
        simp only at HF1
        replace HF1 := Lib.hid HF1
        have hne : (Q.e != 0) = true := by simpa using he
        clear hsc HE1 he
        generalize Q.e = qe at *
        go_wp2_with fail
        (try simp only [Exit.jump, Exit.inBlock, Exit.then])
        refine bodyPost_ret (v := .tuple #[plcV .no, .int .i64 qe]) ?_ rfl ?_
        ·rw [results_cell_tmp rfl]; unfold plcV Plc.no; go_simp
        ·refine ⟨by rw [<- HF1.out], ?_⟩
         (repeat (first | with_reducible assumption | (with_reducible exact Keeps.refl _ _) | (with_reducible refine Keeps.drew ?_) | (with_reducible refine Keeps.alloc ?_ _) | (with_reducible refine Keeps.setCell ?_ (by first | exact Or.inl rfl | exact Or.inr (Nat.le_refl _) | exact Or.inr (by first | (simp; done) | (simp; omega))) _)))
       have he0 : Q.e = 0 := Classical.not_not.1 he
       have hsc1 := hsc.out
       rw [if_neg he] at hsc1
       rw [he0]
       clear hsc he
       by_cases ht : Q.t ≠ ⟨#[]⟩
       ·rw [if_pos ht] at hsc1
        subst hsc1
        have HF1 := HE1.out
        simp only at HF1
        obtain ⟨hqn, hq40⟩ := hq1.out.2.1 he0 ht
        have hrs := restB_size Q.t (l.drop (k + 1)) sk 4095 (fun y hy => HZ.out y (List.mem_of_mem_drop hy))
        have hld : (l.drop (k + 1)).length = l.length - (k + 1) := by simp
        rw [hld] at hrs
        have hrz : (restB Q.t (l.drop (k + 1)) sk).size <= 4294967280 := by
         have : (l.length - (k + 1)) * (4095 + 1) <= 4096 * 4096 := Nat.mul_le_mul (by omega) (by omega)
         omega
        have hslc := fun wx => run_slice_l (P := Tryz.prog) 34 9 1 Tryz.underlying34 (by kernel_rfl) (some ⟨gb, off, none⟩) l.length c1 (k + 1) (by omega) wx (by omega)
        have hsub := r4.sub (k + 1) l.length (by omega) (Nat.le_refl _)
        rw [List.take_length] at hsub
        have HRe := Lib.hid (rest_any _ w4 _ _ _ hsub Q.t sk (fun y hy => HZ.out y (List.mem_of_mem_drop hy)) (by omega) (by omega))
        rw [hld, show encStr.k = 1 from rfl] at HRe
        replace HF1 := Lib.hid HF1
        replace hrz := Lib.hid hrz
        have hne := notEmpty_eq ht
        have hslc2 : ∀ wx : World, (Instr.slice 34 (.slice (some ⟨gb, off, none⟩) l.length c1) (some (.int .i64 ((k : Int) + 1))) none none).run Tryz.prog wx = .ok (.slice (subAt 1 (some ⟨gb, off, none⟩) c1 (k + 1)) (l.length - (k + 1)) (c1 - (k + 1))) wx := hslc
        clear hrs hsub HE1 hr ht hslc
        generalize restB Q.t (l.drop (k + 1)) sk = s2 at *
        rw [hsk.out] at HRe
        go_upto_region 23 with fail
        go_wp2_with (first | (go_at_call 48; go_loud (refine HRe.out.mono ?_); rintro e w5 ⟨rfl, zwe⟩; subst zwe))
        go_step3
        (try simp only [Exit.jump, Exit.inBlock, Exit.then])
        refine ⟨?_, ?_, ?_⟩
        ·rfl
        ·refine FindA.mk (s := s2) (at' := at2) (n := Q.n) (fuel := fuel) (p := p') rfl ?_
         exact FindJ.mk hrz.out (by omega) (by omega) HF1.out CC
        ·rw [HM.out, CC.wkr.c2]
         simp only [Option.getD_some, intOf, Int.toNat_natCast]
         omega
       have ht0 : Q.t = ⟨#[]⟩ := Classical.not_not.1 ht
       rw [if_neg ht] at hsc1
       have hqn := hq1.out.2.2 he0 hn4
       have hqm := hq1.out.1
       rw [ht0]
       have HE2 := HE1
       clear ht ht0 he0 hq1 HE1
       replace hsc1 := Lib.hid hsc1
       by_cases hz : Q.p.node = 0 ∧ l.drop (k + 1) ≠ []
       ·first
        | exact absurd hr.out hz.2
        | (have hb0 : (Q.p.node == 0) = true := by simpa using hz.1
           have hO := hsc1.out
           rw [if_pos hz] at hO
           subst hO
           have HF1 := HE2.out
           simp only at HF1
           replace HF1 := Lib.hid HF1
           clear hsc1 hz
           go_wp2_with fail
           (try simp only [Exit.jump, Exit.inBlock, Exit.then])
           refine bodyPost_ret (v := .tuple #[plcV .no, .int .i64 12]) ?_ rfl ?_
           ·rw [results_cell_tmp rfl]; unfold plcV Plc.no; go_simp
           ·refine ⟨by rw [<- HF1.out], ?_⟩
            (repeat (first | with_reducible assumption | (with_reducible exact Keeps.refl _ _) | (with_reducible refine Keeps.drew ?_) | (with_reducible refine Keeps.alloc ?_ _) | (with_reducible refine Keeps.setCell ?_ (by first | exact Or.inl rfl | exact Or.inr (Nat.le_refl _) | exact Or.inr (by first | (simp; done) | (simp; omega))) _))))
       ·have hcs : (Q.p.node == 0) = false ∨ ((Q.p.node == 0) = true ∧ l.drop (k + 1) = []) := by
         by_cases h0 : Q.p.node = 0
         ·exact .inr ⟨by simpa using h0, Classical.byContradiction fun h => hz ⟨h0, h⟩⟩
         ·exact .inl (by simpa using h0)
        have hsc2 := hsc1.out
        rw [if_neg hz] at hsc2
        replace hsc2 := Lib.hid hsc2
        clear hsc1 hz
        rcases hcs with hb0 | ⟨hb0, hlast⟩
        all_goals first
         | exact absurd hlast hr.out
         | ((try clear hlast)
            go_upto_region 27 with fail
            have C5 := CC.put Q.p
            have r5 := r4.keep (keeps_put w4 (w.heap.size + 1 + 1) (.int .i64 Q.p.node) (.int .i64 Q.p.dir) (.string Q.p.name)) (fun g (hg : w.heap.size + 1 + 1 < g) _ e => by omega)
            have z0 : (((w4.setCell ⟨w.heap.size + 1 + 1, 0, none⟩ (.int .i64 Q.p.node)).setCell ⟨w.heap.size + 1 + 1, 1, none⟩ (.int .i64 Q.p.dir)).setCell ⟨w.heap.size + 1 + 1, 2, none⟩ (.string Q.p.name)).cell? ⟨qb, 0, none⟩ = some (.int .i64 Q.p.node) :=
             ((keeps_put w4 (w.heap.size + 1 + 1) (.int .i64 Q.p.node) (.int .i64 Q.p.dir) (.string Q.p.name)).cell (p := ⟨qb, 0, none⟩) ql (by show ¬ qb = _; omega)).trans q0
            clear B0 B1 B2 FB C0 C1 C2 FZ P0 P1 P2 FP zlt zlg zlp k0
            clear q0 q1 q2 r4 CC
            generalize (((w4.setCell ⟨w.heap.size + 1 + 1, 0, none⟩ (.int .i64 Q.p.node)).setCell ⟨w.heap.size + 1 + 1, 1, none⟩ (.int .i64 Q.p.dir)).setCell ⟨w.heap.size + 1 + 1, 2, none⟩ (.string Q.p.name)) = w5 at *
            have CC := C5
            have B0 := CC.box.c0; have B1 := CC.box.c1; have B2 := CC.box.c2; have FB := CC.box.fz; have C0 := CC.wkr.c0; have C1 := CC.wkr.c1; have C2 := CC.wkr.c2; have FZ := CC.wkr.fz; have P0 := CC.pbox.c0; have P1 := CC.pbox.c1; have P2 := CC.pbox.c2; have FP := CC.pbox.fz; have zlt := CC.box.lt; have zlg := CC.wkr.lt; have zlp := CC.pbox.lt; have k0 := CC.keeps
            go_wp2_with fail
            go_roundw
            case rel =>
             first
              | exact ⟨k + 1, Q.n, at2, Q.p, by go_num, ⟨by omega, hqn, by omega, (by have := hsc2.out; rw [hr.out] at this ⊢; exact this), CC, r5⟩⟩
              | exact ⟨k + 1, Q.n, Q.p.node, Q.p, by go_num, ⟨by omega, hqn, by omega, (by have := hsc2.out; rw [hsk.out] at this; exact this), CC.goto _, r5.keep (keeps_one w5 (w.heap.size + 1) 1 (.int .i64 Q.p.node)) (fun g (hg : w.heap.size + 1 + 1 < g) _ e => by omega)⟩⟩
            case measure => simp [intOf]; omega)
     ·obtain rfl : k = l.length := by omega
      have hsc := J.eq
      rw [List.drop_of_length_le (Nat.le_refl _)] at hsc
      simp only [scan] at hsc
      subst hsc
      have HF1 := HE1.out
      simp only at HF1
      have HEn := end_any (h.keepN CC.keeps) p' sl
      rw [HF1] at HEn
      unfold plcV at HEn
      replace HEn := Lib.hid HEn
      clear HE1 HF1 HO
      obtain ⟨F1, F2⟩ := F
      have B0 := CC.box.c0; have B1 := CC.box.c1; have B2 := CC.box.c2; have FB := CC.box.fz; have C0 := CC.wkr.c0; have C1 := CC.wkr.c1; have C2 := CC.wkr.c2; have FZ := CC.wkr.fz; have P0 := CC.pbox.c0; have P1 := CC.pbox.c1; have P2 := CC.pbox.c2; have FP := CC.pbox.fz; have zlt := CC.box.lt; have zlg := CC.wkr.lt; have zlp := CC.pbox.lt; have k0 := CC.keeps
      go_wp2_with (first | (go_at_call 49; go_loud (refine HEn.out.mono ?_); rintro e w3 ⟨rfl, hk3⟩; have C3' := CC.on hk3; clear B0 B1 B2 FB C0 C1 C2 FZ P0 P1 P2 FP zlt zlg zlp k0; clear CC; have CC := C3'; have B0 := CC.box.c0; have B1 := CC.box.c1; have B2 := CC.box.c2; have FB := CC.box.fz; have C0 := CC.wkr.c0; have C1 := CC.wkr.c1; have C2 := CC.wkr.c2; have FZ := CC.wkr.fz; have P0 := CC.pbox.c0; have P1 := CC.pbox.c1; have P2 := CC.pbox.c2; have FP := CC.pbox.fz; have zlt := CC.box.lt; have zlg := CC.wkr.lt; have zlp := CC.pbox.lt; have k0 := CC.keeps))
      (try simp only [Exit.jump, Exit.inBlock, Exit.then])
      refine bodyPost_ret (v := .tuple #[plcV F1, .int .i64 F2]) ?_ rfl ?_
      ·rw [results_cell_tmp rfl]; unfold plcV; go_simp
      ·refine ⟨rfl, ?_⟩
       (repeat (first | with_reducible assumption | (with_reducible exact Keeps.refl _ _) | (with_reducible refine Keeps.drew ?_) | (with_reducible refine Keeps.alloc ?_ _) | (with_reducible refine Keeps.setCell ?_ (by first | exact Or.inl rfl | exact Or.inr (Nat.le_refl _) | exact Or.inr (by first | (simp; done) | (simp; omega))) _)))
end
end Go.Proofs.YtimidmogcbapnaaGreatDoor
