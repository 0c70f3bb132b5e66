/-
  Layers 2, 25: contracts: a plain path's directory; the check of a tree.
-/
import Derived.Test.YtonkgdoaobojbaaGreatDoorG04
import Derived.Test.YtonkgdoaobojbaaGreatDoorG02
import Derived.BigQuiet
import Derived.Deep.QuietTactic
import Derived.Deep.Cut

set_option linter.unusedSimpArgs false
set_option linter.unusedVariables false
set_option maxRecDepth 100000
set_option maxHeartbeats 8000000
namespace Go.Proofs.YtonkgdoaobojbaaGreatDoor
open Go Go.RowKit
theorem sub_at (s : ByteArray) (n j : Nat) (hj : j < n) : (s.extract 0 n).data.toList[j]? = s.data.toList[j]? := by
 rw [data_extract, List.drop_zero, List.getElem?_take, if_pos hj]
theorem trimb_one (s : ByteArray) (w : World) (h1 : 2 <= s.size) (hm : s.size <= 4294967296) (he : endS s = true) (hne : endS (s.extract 0 (s.size - 1)) = false) :
 Calls Tryz.prog 146 #[.string s, .int .u8 47] w fun e w' => e = .returned (.string (s.extract 0 (s.size - 1))) ∧ w = w' := by
 obtain ⟨y, hy⟩ : ∃ y, s.extract 0 (s.size - 1) = y := ⟨_, rfl⟩
 rw [hy] at hne ⊢
 have hys : Hid (y.size = s.size - 1) := Lib.hid (by rw [<- hy, ByteArray.size_extract]; omega)
 have hy1 : 1 <= y.size := by rw [hys.out]; omega
 have hb : ((y[y.size - 1].toNat : Int) == 47) = false := by
  rw [endS_last y hy1, decide_eq_false_iff_not] at hne
  rw [byte_eq _ _ (by decide) (by decide), decide_eq_false_iff_not]
  exact hne
 have hb2 : ((s[s.size - 1].toNat : Int) == 47) = true := by
  rw [endS_last s (by omega), decide_eq_true_iff] at he
  rw [byte_eq _ _ (by decide) (by decide), decide_eq_true_iff]
  exact he
 have hm2 : y.size <= 4294967296 := by rw [hys.out]; omega
 have hs2 := Lib.hid (show y.size < s.size by have := hys.out; omega)
 have hyq := Lib.hid hy
 clear hne he hy
 go_enter Tryz.func146, Tryz.ntmps146
 go_wp2
 go_loop [0] (fun v => v = .string s ∨ v = .string y) (fun v => match v with | .string x => x.size | _ => 0)
 case atStart => exact .inl rfl
 case round =>
  rcases hrel with rfl | rfl
  ·go_wp2
   go_round
   case rel => exact .inr (by rw [<- hyq.out])
   case measure =>
    rw [hyq.out]
    exact hs2.out
  ·go_wp2
   go_ret
   exact ⟨rfl, rfl⟩
theorem trim_one (s : ByteArray) (w : World) (h1 : 2 <= s.size) (hm : s.size <= 4294967296) (he : endS s = true) (hne : endS (s.extract 0 (s.size - 1)) = false) :
 Calls Tryz.prog 128 #[.string s, .string slashB] w fun e w' => e = .returned (.string (s.extract 0 (s.size - 1))) ∧ w = w' := by
 have HT := Lib.hid (trimb_one s w h1 hm he hne)
 have hz : (!s.toList.isEmpty) = true := notEmpty_eq (fun e => by subst e; exact absurd h1 (by decide))
 have hz2 : s.toList.isEmpty = false := by simpa using hz
 clear hne he
 generalize s.extract 0 (s.size - 1) = y at *
 go_enter Tryz.func128, Tryz.ntmps128
 go_wp2_with (go_at_call 146; go_loud (refine HT.out.mono ?_); rintro e w1 ⟨rfl, rfl⟩)
 go_ret
 exact ⟨rfl, rfl⟩
theorem bare_same (s : ByteArray) (w : World) (h1 : 1 <= s.size) (hm : s.size <= 4294967296) (hne : endS s = false) : Calls Tryz.prog 96 #[.string s] w fun e w' => e = .returned (.string s) ∧ w = w' := by
 have HT := Lib.hid (fun w1 : World => trim_sameT s w1 h1 hm hne)
 have hz : (!s.toList.isEmpty) = true := notEmpty_eq (fun e => by subst e; exact absurd h1 (by decide))
 have hz2 : s.toList.isEmpty = false := by simpa using hz
 clear hne
 go_enter Tryz.func96, Tryz.ntmps96
 go_wp2_with (go_at_call 128; go_loud (refine (HT.out _).mono ?_); rintro e w1 ⟨rfl, rfl⟩)
 go_ret
 exact ⟨rfl, rfl⟩
theorem bare_one (s : ByteArray) (w : World) (h1 : 2 <= s.size) (hm : s.size <= 4294967296) (he : endS s = true) (hne : endS (s.extract 0 (s.size - 1)) = false) : Calls Tryz.prog 96 #[.string s] w fun e w' => e = .returned (.string (s.extract 0 (s.size - 1))) ∧ w = w' := by
 have HT := Lib.hid (fun w1 : World => trim_one s w1 h1 hm he hne)
 have hys : (s.extract 0 (s.size - 1)).size = s.size - 1 := by rw [ByteArray.size_extract]; omega
 generalize s.extract 0 (s.size - 1) = y at *
 have hz : (!y.toList.isEmpty) = true := notEmpty_eq (fun e => by subst e; have h5 : 0 = s.size - 1 := hys; omega)
 have hz2 : y.toList.isEmpty = false := by simpa using hz
 clear hne he hys
 go_enter Tryz.func96, Tryz.ntmps96
 go_wp2_with (go_at_call 128; go_loud (refine (HT.out _).mono ?_); rintro e w1 ⟨rfl, rfl⟩)
 go_ret
 exact ⟨rfl, rfl⟩
/-! A plain path's slashes -/
theorem pcs_slash : ∀ l : List UInt8, (∀ p ∈ (pcsL l).tail, p ≠ []) -> ∀ i, l[i]? = some 47 -> i + 1 < l.length ∧ l[i + 1]? ≠ some 47
 | [], _, i, h => by simp at h
 | c :: s, hp, i, h => by
   unfold pcsL at hp
   by_cases hc : c = 47
   ·rw [if_pos hc] at hp
    simp only [List.tail_cons] at hp
    have h2 := pcs_slash s (fun p hm => hp p (List.mem_of_mem_tail hm))
    rcases i with _ | i
    ·rcases s with _ | ⟨d, s⟩
     ·exact absurd rfl (hp [] (by simp [pcsL]))
     ·refine ⟨by simp, fun h3 => ?_⟩
      simp only [List.getElem?_cons_succ, List.getElem?_cons_zero, Option.some.injEq] at h3
      exact absurd rfl (hp [] (by unfold pcsL; rw [if_pos h3]; simp))
    ·simp only [List.getElem?_cons_succ] at h
     have h3 := h2 i h
     exact ⟨by rw [List.length_cons]; omega, by simpa using h3.2⟩
   ·rw [if_neg hc] at hp
    have h2 := pcs_slash s (fun p hm => hp p (by
     rcases e : pcsL s with _ | ⟨q, r⟩
     ·exact absurd e (pcsL_ne s)
     ·rw [e] at hm; simp only [List.tail_cons] at hm ⊢; exact hm))
    rcases i with _ | i
    ·simp only [List.getElem?_cons_zero, Option.some.injEq] at h
     exact absurd h hc
    ·simp only [List.getElem?_cons_succ] at h
     have h3 := h2 i h
     exact ⟨by rw [List.length_cons]; omega, by simpa using h3.2⟩
theorem pcs_head {l : List UInt8} (h : ∀ p ∈ pcsL l, p ≠ []) : l.head? ≠ some 47 := by
 rcases l with _ | ⟨c, s⟩
 ·simp
 ·intro hc
  simp only [List.head?_cons, Option.some.injEq] at hc
  exact absurd rfl (h [] (by unfold pcsL; rw [if_pos hc]; simp))
theorem plain_pcs {s : ByteArray} (h : plainB s = true) : (∀ p ∈ pcsL s.data.toList, p ≠ []) ∧ 1 <= s.size ∧ s.size <= 4095 := by
 unfold plainB rightB at h
 simp only [Bool.and_eq_true, decide_eq_true_eq] at h
 refine ⟨fun p hp e => ?_, h.1.1.1, h.1.1.2⟩
 have h2 := List.all_eq_true.1 h.2 (ofL p) (List.mem_map.2 ⟨p, hp, rfl⟩)
 subst e
 exact absurd h2 (by decide)
theorem endS_of {s : ByteArray} (h : s.data.toList[s.size - 1]? ≠ some 47) : endS s = false := by
 unfold endS
 exact decide_eq_false fun e => h e.2
theorem plain_slash {s : ByteArray} (h : plainB s = true) (i : Nat) (hi : s.data.toList[i]? = some 47) : 1 <= i ∧ i + 1 < s.size ∧ s.data.toList[i - 1]? ≠ some 47 := by
 obtain ⟨hp, h1, _⟩ := plain_pcs h
 have hsl := pcs_slash _ (fun p hm => hp p (List.mem_of_mem_tail hm))
 have h3 := hsl i hi
 rw [len_data] at h3
 have h0 : 1 <= i := by
  rcases i with _ | i
  ·exact absurd (by rw [List.head?_eq_getElem?]; exact hi) (pcs_head hp)
  ·omega
 refine ⟨h0, h3.1, fun e => ?_⟩
 have h4 := (hsl (i - 1) e).2
 rw [show i - 1 + 1 = i by omega] at h4
 exact h4 hi
theorem plain_end {s : ByteArray} (h : plainB s = true) : endS s = false :=
 endS_of fun e => by
  have h1 := plain_slash h _ e
  omega
def upB (s : ByteArray) : ByteArray := if lastI s 47 s.size < 0 then ⟨#[46]⟩ else s.extract 0 (lastI s 47 s.size).toNat
theorem lastI_at (s : ByteArray) (c : UInt8) : ∀ n i : Nat, lastI s c n = (i : Int) -> s.data.toList[i]? = some c
 | 0, i, h => by unfold lastI at h; omega
 | k + 1, i, h => by
   unfold lastI at h
   split at h
   ·next e => obtain rfl : k = i := by omega
              exact e
   ·exact lastI_at s c k i h
theorem dir_any (s : ByteArray) (h : plainB s = true) (w : World) : Calls Tryz.prog 63 #[.string s] w fun e w' => e = .returned (.string (upB s)) ∧ w = w' := by
 obtain ⟨_, h1, h2⟩ := plain_pcs h
 have HB := Lib.hid (fun w1 : World => bare_same s w1 h1 (by omega) (plain_end h))
 have HL := Lib.hid (fun w1 : World => lastx s 47 w1 (by omega))
 have hr := lastI_range s 47 s.size
 have hat := lastI_at s 47 s.size
 have hU : upB s = if lastI s 47 s.size < 0 then ⟨#[46]⟩ else s.extract 0 (lastI s 47 s.size).toNat := rfl
 have HU := Lib.hid hU
 have hq : (s.toList == [47]) = false := by
  rw [beq_eq_false_iff_ne]
  intro e
  rw [Lib.toList_data] at e
  have := plain_slash h 0 (by rw [e]; rfl)
  omega
 generalize upB s = U at *
 generalize lastI s 47 s.size = r at *
 by_cases hneg : r < 0
 ·have HE := Lib.hid (HU.out.trans (if_pos hneg))
  clear hat hU
  go_enter Tryz.func63, Tryz.ntmps63
  go_wp2_with (first | (go_at_call 96; go_loud (refine (HB.out _).mono ?_); rintro e w1 ⟨rfl, rfl⟩) | (go_at_call 64; go_loud (refine (HL.out _).mono ?_); rintro e w2 ⟨rfl, rfl⟩))
  go_ret
  rw [HE.out]
  exact ⟨rfl, rfl⟩
 ·obtain ⟨i, rfl⟩ : ∃ i : Nat, r = i := ⟨r.toNat, by omega⟩
  have HE := Lib.hid (HU.out.trans (if_neg hneg))
  have hps := plain_slash h i (hat i rfl)
  have hsz : (s.extract 0 (i + 1)).size = i + 1 := by rw [ByteArray.size_extract]; omega
  have hex : (s.extract 0 (i + 1)).extract 0 i = s.extract 0 i := by
   apply ba_eq
   rw [data_extract, data_extract, data_extract]
   simp only [List.drop_zero, List.take_take]
   rw [Nat.min_eq_left (by omega)]
  have he1 : endS (s.extract 0 (i + 1)) = true := by
   unfold endS
   rw [hsz]
   exact decide_eq_true ⟨by omega, by rw [show i + 1 - 1 = i from rfl, sub_at s (i + 1) i (by omega)]; exact hat i rfl⟩
  have he2 : endS ((s.extract 0 (i + 1)).extract 0 ((s.extract 0 (i + 1)).size - 1)) = false := by
   rw [hsz, show i + 1 - 1 = i from rfl, hex]
   refine endS_of ?_
   have hzi : (s.extract 0 i).size = i := by rw [ByteArray.size_extract]; omega
   rw [hzi, sub_at s i (i - 1) (by omega)]
   exact hps.2.2
  have hb2 := fun w1 : World => bare_one (s.extract 0 (i + 1)) w1 (by omega) (by omega) he1 he2
  rw [hsz, show i + 1 - 1 = i from rfl, hex] at hb2
  have HB2 := Lib.hid hb2
  have hi1 : (i : Int) + 1 <= (s.size : Int) := by omega
  have hi9 : (i : Int) <= 5000 := by omega
  have hi0 : (0 : Int) <= (i : Int) := by omega
  have HE2 : Hid (U = s.extract 0 i) := HE
  clear hat hU hb2 he1 he2 hex hsz hps HE
  generalize hy : s.extract 0 i = y at *
  go_enter Tryz.func63, Tryz.ntmps63
  go_wp2_with (first | (go_at_call 96; go_loud (first | (with_reducible refine (HB.out _).mono ?_) | (with_reducible refine (HB2.out _).mono ?_)); rintro e w1 ⟨rfl, rfl⟩) | (go_at_call 64; go_loud (refine (HL.out _).mono ?_); rintro e w2 ⟨rfl, rfl⟩))
  go_ret
  rw [HE2.out]
  exact ⟨rfl, rfl⟩
def encItm : Enc Itm where
 enc := fun i => i.cs.toList
 k := 5
 pos := by decide
 len := fun _ => rfl
 one := fun x v hv => by simp [Itm.cs] at hv; rcases hv with rfl | rfl | rfl | rfl | rfl <;> rfl
theorem SlAt.itm {S : Nat -> Prop} {w : World} {p : Option Addr} {c : Nat} {l : List Itm} (h : SlAt encItm S w p c l) {i : Nat} {x : Itm} (hi : l[i]? = some x) :
 ∃ g off, p = some ⟨g, off, none⟩ ∧ S g ∧ g < w.heap.size ∧ w.cell? ⟨g, off + i * 5, none⟩ = some (.string x.p) ∧ w.cell? ⟨g, off + i * 5 + 1, none⟩ = some (.int .i64 x.kind) ∧
   w.cell? ⟨g, off + i * 5 + 2, none⟩ = some (.int .i64 x.mode) ∧ w.cell? ⟨g, off + i * 5 + 3, none⟩ = some (.string x.dat) ∧ w.cell? ⟨g, off + i * 5 + 4, none⟩ = some (.string x.same) := by
 obtain ⟨g, off, hp, hS, hg, hc⟩ := h.at hi
 rw [show encItm.k = 5 from rfl] at hc
 exact ⟨g, off, hp, hS, hg, by have := hc 0 _ rfl; simpa using this, by have := hc 1 _ rfl; rw [<- Nat.add_assoc] at this; exact this, by have := hc 2 _ rfl; rw [<- Nat.add_assoc] at this; exact this,
  by have := hc 3 _ rfl; rw [<- Nat.add_assoc] at this; exact this, by have := hc 4 _ rfl; rw [<- Nat.add_assoc] at this; exact this⟩
def ckGo (s : Ck) (k : Nat) : List Itm -> Int × Int
 | [] => (0, 0)
 | i :: l => if addE (shpE i) (upB i.p) s i ≠ 0 then (addE (shpE i) (upB i.p) s i, (k : Int)) else ckGo (s.put i) (k + 1) l
def ck0 : Ck := ⟨[], [], ⟨#[]⟩⟩
def ckE (l : List Itm) : Int × Int := if l.length = 0 then (12, 0) else if 4096 < l.length then (24, 0) else ckGo ck0 0 l
theorem add_any (s : Ck) (i : Itm) (hp : i.p.size <= 1000000) (c bk bf : Nat) (w : World) (hc : CkAt w c bk bf s) :
 Calls Tryz.prog 39 #[.pointer (some ⟨c, 0, none⟩), i.v] w fun e w' => AddTo w c bk bf s i (addE (shpE i) (upB i.p) s i) e w' := by
 refine add_walk s i c bk bf (shpE i) (upB i.p) w (fun w1 => shape_any i hp w1) (fun h w1 => ?_) hc
 have hpl : plainB i.p = true := by
  unfold shpE at h
  rcases e : plainB i.p with _ | _
  ·rw [e, if_pos rfl] at h
   exact absurd h (by decide)
  ·rfl
 exact (dir_any i.p hpl w1).mono fun e w' h => ⟨h.1, by rw [<- h.2]; exact Keeps.refl _ _⟩
theorem check_any (l : List Itm) (hl : ∀ i ∈ l, i.p.size <= 1000000) (w : World) {S : Nat -> Prop} {p : Option Addr} {cp : Nat} (hS : SlAt encItm S w p cp l) :
 Calls Tryz.prog 24 #[.slice p l.length cp] w fun e w' => e = .returned (.tuple #[.int .i64 (ckE l).1, .int .i64 (ckE l).2]) ∧ Keeps NoB w w' := by
 have hcap := hS.cap
 have hmax := hS.max
 unfold maxLen at hmax
 have HS := Lib.hid hS
 have HL := Lib.hid hl
 have HA := Lib.hid (fun (s : Ck) (i : Itm) (hp : i.p.size <= 1000000) (c bk bf : Nat) (w1 : World) (hc : CkAt w1 c bk bf s) => add_any s i hp c bk bf w1 hc)
 have HE : Hid (ckE l = if l.length = 0 then (12, 0) else if 4096 < l.length then (24, 0) else ckGo ck0 0 l) := Lib.hid rfl
 generalize ckE l = R at *
 clear hl hS
 by_cases h0 : l.length = 0
 ·have HE2 := Lib.hid (HE.out.trans (if_pos h0))
  go_enter Tryz.func24, Tryz.ntmps24
  go_wp2
  go_ret2
  rw [HE2.out]
  exact ⟨rfl, Keeps.refl _ _⟩
 ·have HE2 := Lib.hid (HE.out.trans (if_neg h0))
  have h0' : ¬ (l.length : Int) = 0 := by omega
  clear HE
  by_cases h9 : 4096 < l.length
  ·have HE3 := Lib.hid (HE2.out.trans (if_pos h9))
   have h9' : (4096 : Int) < (l.length : Int) := by omega
   go_enter Tryz.func24, Tryz.ntmps24
   go_wp2
   go_ret2
   rw [HE3.out]
   exact ⟨rfl, Keeps.refl _ _⟩
  ·have HE3 := Lib.hid (HE2.out.trans (if_neg h9))
   have h9' : ¬ (4096 : Int) < (l.length : Int) := by omega
   have hl2 : (l.length : Int) <= 4096 := by omega
   clear HE2 h0 h9
   have hmk1 : ∀ wx : World, (Instr.makeMap 79 none).run Tryz.prog wx = .ok (.map (some wx.heap.size)) (wx.alloc (.map #[] 0)) := fun _ => rfl
   have hmk2 : ∀ wx : World, (Instr.makeMap 80 none).run Tryz.prog wx = .ok (.map (some wx.heap.size)) (wx.alloc (.map #[] 0)) := fun _ => rfl
   have k1 : Keeps NoB w (w.alloc (.map #[] 0)) := (Keeps.refl _ _).alloc _
   have k2 : Keeps NoB (w.alloc (.map #[] 0)) ((w.alloc (.map #[] 0)).alloc (.map #[] 0)) := (Keeps.refl _ _).alloc _
   have k3 : Keeps NoB ((w.alloc (.map #[] 0)).alloc (.map #[] 0)) (((w.alloc (.map #[] 0)).alloc (.map #[] 0)).alloc (.cells #[.map (some w.heap.size), .map (some (w.heap.size + 1)), .string ⟨#[]⟩] 82)) := (Keeps.refl _ _).alloc _
   have hm1 := ((SMap.made w).keep k2 (fun h => h)).keep k3 (fun h => h)
   have hm2 := (SMap.made (w.alloc (.map #[] 0))).keep k3 (fun h => h)
   have hb3 := Bk.new (Keeps.refl NoB (((w.alloc (.map #[] 0)).alloc (.map #[] 0)).alloc (.cells #[.map (some w.heap.size), .map (some (w.heap.size + 1)), .string ⟨#[]⟩] 82)))
   rw [show (w.alloc (.map #[] 0)).heap.size = w.heap.size + 1 by simp] at hm2
   rw [show ((w.alloc (.map #[] 0)).alloc (.map #[] 0)).heap.size = w.heap.size + 1 + 1 by simp] at hb3
   have HCk : Hid (CkAt (((w.alloc (.map #[] 0)).alloc (.map #[] 0)).alloc (.cells #[.map (some w.heap.size), .map (some (w.heap.size + 1)), .string ⟨#[]⟩] 82)) (w.heap.size + 1 + 1) w.heap.size (w.heap.size + 1) ck0) :=
    Lib.hid ⟨hb3, hm1, hm2, by omega, by omega, by omega, by simp [ck0], by simp [ck0]⟩
   have HK0 := Lib.hid ((k1.trans k2).trans k3)
   clear k1 k2 k3 hm1 hm2 hb3
   go_enter Tryz.func24, Tryz.ntmps24
   go_upto_region 7 with fail
   clear hmk1 hmk2
   generalize (((w.alloc (.map #[] 0)).alloc (.map #[] 0)).alloc (.cells #[.map (some w.heap.size), .map (some (w.heap.size + 1)), .string ⟨#[]⟩] 82)) = w0 at *
   go_loopw [22] (fun i wr => ∃ (n : Nat) (s : Ck), n <= l.length ∧ i = .int .i64 n ∧ CkAt wr (w.heap.size + 1 + 1) w.heap.size (w.heap.size + 1) s ∧ Keeps NoB w wr ∧ Hid (R = ckGo s n (l.drop n))) (fun i _ => l.length + 1 - (intOf i).toNat)
   case atStart => exact ⟨0, ck0, Nat.zero_le _, rfl, HCk.out, HK0.out, HE3⟩
   case round =>
    rename World => wr
    obtain ⟨n, s, hn, rfl, hck, hkr, hR⟩ := hrel
    by_cases hlt : n < l.length
    ·obtain ⟨x, hx⟩ : ∃ x, l[n]? = some x := ⟨_, List.getElem?_eq_getElem hlt⟩
     obtain ⟨g, o, rfl, _, hgl, c0, c1, c2, c3, c4⟩ := HS.out.itm hx
     have hkc : ∀ (j : Nat) v, w.cell? ⟨g, j, none⟩ = some v -> wr.cell? ⟨g, j, none⟩ = some v := fun j v h => (hkr.cell (p := ⟨g, j, none⟩) hgl (fun h => h)).trans h
     have d0 := hkc _ _ c0
     have d1 := hkc _ _ c1
     have d2 := hkc _ _ c2
     have d3 := hkc _ _ c3
     have d4 := hkc _ _ c4
     have dl := lt_of_cell d0
     have hx6 := HL.out x (List.mem_of_getElem? hx)
     have hR2 := hR.out
     rw [List.drop_eq_getElem_cons hlt, show l[n] = x from Option.some.inj ((List.getElem?_eq_getElem hlt).symm.trans hx)] at hR2
     have hR3 : R = if addE (shpE x) (upB x.p) s x ≠ 0 then (addE (shpE x) (upB x.p) s x, (n : Int)) else ckGo (s.put x) (n + 1) (l.drop (n + 1)) := hR2
     have ka : Keeps NoB wr (wr.alloc (.cells x.cs 42)) := (Keeps.refl _ _).alloc _
     have hax := Lib.hid (HA.out s x hx6 _ _ _ _ (hck.on ka))
     have HKa := Lib.hid (hkr.trans ka)
     have HR3 := Lib.hid hR3
     clear hkc c0 c1 c2 c3 c4 hR hR2 hR3 hx ka hck hkr hx6 HE3
     generalize hE : addE (shpE x) (upB x.p) s x = E at *
     obtain ⟨xp, xk, xm, xd, xs⟩ := x
     simp only at d0 d1 d2 d3 d4
     have hax : Hid (Calls Tryz.prog 39 #[.pointer (some ⟨w.heap.size + 1 + 1, 0, none⟩), .agg #[.string xp, .int .i64 xk, .int .i64 xm, .string xd, .string xs]] (wr.alloc (.cells #[.string xp, .int .i64 xk, .int .i64 xm, .string xd, .string xs] 42)) fun e w' => AddTo (wr.alloc (.cells #[.string xp, .int .i64 xk, .int .i64 xm, .string xd, .string xs] 42)) (w.heap.size + 1 + 1) w.heap.size (w.heap.size + 1) s ⟨xp, xk, xm, xd, xs⟩ E e w') := hax
     by_cases hz : E = 0
     ·have HR4 := Lib.hid (HR3.out.trans (if_neg (by simpa using hz)))
      clear HR3
      subst hz
      go_wp2_with (go_at_call 39; go_loud (refine hax.out.mono ?_); rintro e w1 ⟨rfl, hc1, hk1⟩; have HC1 := Lib.hid (hc1 rfl); have HK1 := Lib.hid (HKa.out.step hk1 (fun g hg => .inr (by rcases hg with h | h | h <;> omega))); clear hc1 hk1)
      go_roundw
      case rel => exact ⟨n + 1, _, by omega, by go_num, HC1.out, HK1.out, HR4⟩
      case measure => (simp [intOf]) <;> omega
     ·have HR4 := Lib.hid (HR3.out.trans (if_pos (by simpa using hz)))
      clear HR3
      go_wp2_with (go_at_call 39; go_loud (refine hax.out.mono ?_); rintro e w1 ⟨rfl, hc1, hk1⟩; have HK1 := Lib.hid (HKa.out.step hk1 (fun g hg => .inr (by rcases hg with h | h | h <;> omega))); clear hc1 hk1)
      go_ret2
      rw [HR4.out]
      exact ⟨rfl, HK1.out⟩
    ·obtain rfl : n = l.length := by omega
     have hR2 := hR.out
     rw [List.drop_of_length_le (Nat.le_refl _)] at hR2
     have HR2 : Hid (R = (0, 0)) := Lib.hid hR2
     have HKr := Lib.hid hkr
     clear hR hR2 HE3 hck hkr
     go_wp2
     go_ret2
     rw [HR2.out]
     exact ⟨rfl, HKr.out⟩
structure Prt where
 f : Int
 way : Int
 t : ByteArray
def encPrt : Enc Prt where
 enc := fun x => [.int .i64 x.f, .int .i64 x.way, .string x.t]
 k := 3
 pos := by decide
 len := fun _ => rfl
 one := fun x v hv => by simp at hv; rcases hv with rfl | rfl | rfl <;> rfl
theorem tPrt : ElemT Tryz.prog encPrt 29 45 ⟨0, 0, ⟨#[]⟩⟩ 32 :=
 .of (.agg #[.int .i64 0, .int .i64 0, .string ⟨#[]⟩]) Tryz.underlying29 (by kernel_rfl) rfl
def tellB (way : Int) (x : ByteArray) : ByteArray := if way = 1 then x else if way = 2 then ⟨(encB x.data.toList).toArray⟩ else ⟨(escL x.data.toList).toArray⟩
def partP (k : Int) (ws : List Int) (x : ByteArray) : Prt := ⟨k, (bestP ws x).1, tellB (bestP ws x).1 x⟩
def fileE (ws : List Int) : List ByteArray -> Int
 | [] => 0
 | x :: l => if (bestP ws x).2 ≠ 0 then (bestP ws x).2 else fileE ws l
theorem tell_any (way : Int) (x : ByteArray) (hs : x.size <= 1000000) (w : World) : Calls Tryz.prog 42 #[.int .i64 way, .string x] w fun e w' => e = .returned (.tuple #[.string (tellB way x), .int .i64 0]) ∧ Keeps NoB w w' := by
 by_cases h2 : way = 2
 ·subst h2
  exact tell_uu x hs w
 ·by_cases h1 : way = 1
  ·subst h1
   rw [show tellB 1 x = x from rfl]
   go_enter Tryz.func42, Tryz.ntmps42
   go_wp2
   go_ret2
   exact ⟨rfl, Keeps.refl _ _⟩
  ·have b1 : (way == 1) = false := by simpa using h1
   have b2 : (way == 2) = false := by simpa using h2
   rw [show tellB way x = ⟨(escL x.data.toList).toArray⟩ by unfold tellB; rw [if_neg h1, if_neg h2]]
   have HE := Lib.hid (fun w1 : World => fEscape_any x w1 (by omega))
   generalize (⟨(escL x.data.toList).toArray⟩ : ByteArray) = t at *
   clear h1 h2
   go_enter Tryz.func42, Tryz.ntmps42
   go_wp2_with (go_at_call 71; go_loud (refine (HE.out _).mono ?_); rintro e w1 ⟨rfl, hk1⟩)
   go_ret2
   exact ⟨rfl, hk1⟩
def szAt7 (a : Act) : Nat := match a.tmps.getD 7 undef with
 | .string x => x.size
 | _ => 0
structure PlJ (w : World) (pb M : Nat) (tv fv : Value) (ws : List Int) (k : Int) (old all : List Prt) (E : Int) (w' : World) (s : ByteArray) (dn : List Prt) (v : Value) : Prop where
 bk : Bk w' pb [tv, fv, v]
 own : Own encPrt 45 (fun g => M <= g) w' v (old ++ dn)
 len : dn.length + s.size <= 1000000
 parts : dn ++ (cuts s).map (partP k ws) = all
 err : fileE ws (cuts s) = E
 keeps : Keeps (fun g => g = pb ∨ M <= g) w w'
def PlA (w : World) (pb M : Nat) (tv fv wv : Value) (ws : List Int) (k : Int) (old all : List Prt) (E : Int) (a' : Act) (w' : World) : Prop :=
 ∃ (fz : Nat -> Value) (s : ByteArray) (dn : List Prt) (v : Value), a' = { tmps := List.toArray (.pointer (some ⟨pb, 0, none⟩) :: .int .i64 k :: wv :: fz 3 :: fz 4 :: fz 5 :: fz 6 :: .string s :: fz 8 :: fz 9 :: fz 10 :: fz 11 :: fz 12 :: fz 13 :: fz 14 :: fz 15 :: fz 16 :: fz 17 :: fz 18 :: fz 19 :: fz 20 :: fz 21 :: fz 22 :: fz 23 :: fz 24 :: fz 25 :: fz 26 :: fz 27 :: fz 28 :: fz 29 :: fz 30 :: fz 31 :: fz 32 :: fz 33 :: fz 34 :: fz 35 :: fz 36 :: fz 37 :: fz 38 :: fz 39 :: fz 40 :: fz 41 :: fz 42 :: fz 43 :: fz 44 :: fz 45 :: fz 46 :: fz 47 :: fz 48 :: fz 49 :: fz 50 :: fz 51 :: fz 52 :: fz 53 :: fz 54 :: fz 55 :: fz 56 :: fz 57 :: fz 58 :: fz 59 :: fz 60 :: fz 61 :: fz 62 :: fz 63 :: fz 64 :: fz 65 :: fz 66 :: fz 67 :: []), defers := [] } ∧ PlJ w pb M tv fv ws k old all E w' s dn v
theorem PlA.mk {w : World} {pb M : Nat} {tv fv wv : Value} {ws : List Int} {k : Int} {old all : List Prt} {E : Int} {a' : Act} {w' : World} {s : ByteArray} {dn : List Prt} {v : Value}
 (h : (fun fz : Nat -> Value => a' = { tmps := List.toArray (.pointer (some ⟨pb, 0, none⟩) :: .int .i64 k :: wv :: fz 3 :: fz 4 :: fz 5 :: fz 6 :: .string s :: fz 8 :: fz 9 :: fz 10 :: fz 11 :: fz 12 :: fz 13 :: fz 14 :: fz 15 :: fz 16 :: fz 17 :: fz 18 :: fz 19 :: fz 20 :: fz 21 :: fz 22 :: fz 23 :: fz 24 :: fz 25 :: fz 26 :: fz 27 :: fz 28 :: fz 29 :: fz 30 :: fz 31 :: fz 32 :: fz 33 :: fz 34 :: fz 35 :: fz 36 :: fz 37 :: fz 38 :: fz 39 :: fz 40 :: fz 41 :: fz 42 :: fz 43 :: fz 44 :: fz 45 :: fz 46 :: fz 47 :: fz 48 :: fz 49 :: fz 50 :: fz 51 :: fz 52 :: fz 53 :: fz 54 :: fz 55 :: fz 56 :: fz 57 :: fz 58 :: fz 59 :: fz 60 :: fz 61 :: fz 62 :: fz 63 :: fz 64 :: fz 65 :: fz 66 :: fz 67 :: []), defers := [] }) (fun i => a'.tmps.toList.getD i undef)) (J : PlJ w pb M tv fv ws k old all E w' s dn v) : PlA w pb M tv fv wv ws k old all E a' w' :=
 ⟨fun i => a'.tmps.toList.getD i undef, s, dn, v, h, J⟩
def FileTo (w : World) (pb M : Nat) (tv fv : Value) (ws : List Int) (k : Int) (old : List Prt) (s : ByteArray) (e : Ending) (w' : World) : Prop :=
 e = .returned (.int .i64 (fileE ws (cuts s))) ∧ (fileE ws (cuts s) = 0 -> ∃ v, Bk w' pb [tv, fv, v] ∧ Own encPrt 45 (fun g => M <= g) w' v (old ++ (cuts s).map (partP k ws))) ∧ Keeps (fun g => g = pb ∨ M <= g) w w'
theorem file_any (w : World) (pb M : Nat) (items : List Itm) (own : List Int) (ws : List Int) (old : List Prt) (tp fp wp : Option Addr) (tc fc wc : Nat) (pv : Value) (k i : Nat) (x : Itm)
 (hb : Bk w pb [.slice tp items.length tc, .slice fp own.length fc, pv]) (hpb : pb < M) (hM : M <= w.heap.size)
 (hT : SlAt encItm (fun g => g < M ∧ g ≠ pb) w tp tc items) (hF : SlAt encInt (fun g => g < M ∧ g ≠ pb) w fp fc own) (hW : SlAt encInt (fun g => g < M ∧ g ≠ pb) w wp wc ws)
 (ho : Own encPrt 45 (fun g => M <= g) w pv old) (hk : own[k]? = some (i : Int)) (hi : items[i]? = some x) (hx : x.dat.size <= 500000) (hw1 : 1 <= ws.length) (hw2 : ws.length <= 1000) (hold : old.length <= 4000000000000) :
 Calls Tryz.prog 25 #[.pointer (some ⟨pb, 0, none⟩), .int .i64 (k : Int), .slice wp ws.length wc] w fun e w' => FileTo w pb M (.slice tp items.length tc) (.slice fp own.length fc) ws (k : Int) old x.dat e w' := by
 obtain ⟨tg, tO, rfl, ⟨htg1, htg2⟩, tgl, t0, t1, t2, t3, t4⟩ := hT.itm hi
 obtain ⟨fg, fo, rfl, ⟨hfg1, hfg2⟩, fgl, f0⟩ := hF.num hk
 have HW := Lib.hid hW
 have hkl : k < own.length := (List.getElem?_eq_some_iff.1 hk).1
 have hil : i < items.length := (List.getElem?_eq_some_iff.1 hi).1
 have htm := hT.max
 have htc := hT.cap
 have hfm := hF.max
 have hfc := hF.cap
 unfold maxLen at htm hfm
 have hkI : (k : Int) < (own.length : Int) := by omega
 have hiI : (i : Int) < (items.length : Int) := by omega
 have HJ0 : Hid (PlJ w pb M (.slice (some ⟨tg, tO, none⟩) items.length tc) (.slice (some ⟨fg, fo, none⟩) own.length fc) ws (k : Int) old ((cuts x.dat).map (partP (k : Int) ws)) (fileE ws (cuts x.dat)) w x.dat [] pv) :=
  Lib.hid ⟨hb, by rw [List.append_nil]; exact ho, by simp; omega, rfl, rfl, Keeps.refl _ _⟩
 have b0 := hb.cell 0 _ rfl
 have b1 := hb.cell 1 _ rfl
 have bl := hb.lt
 have HB := Lib.hid (fun (y : ByteArray) (h1 : 1 <= y.size) (h2 : y.size <= 1000000) (w1 : World) (hk1 : Keeps (fun g => g = pb ∨ M <= g) w w1) => best_ex y h1 h2 ws hw1 hw2 w1 (hW.keep hk1 (fun g hg _ h => by rcases h with h | h; exact hg.2 h; have := hg.1; omega)))
 have HFs := Lib.hid (fun (y : ByteArray) (h1 : 1 <= y.size) (h2 : y.size <= 1000000) (w1 : World) => first_ex y h2 h1 w1)
 have HTe := Lib.hid (fun (way : Int) (y : ByteArray) (h2 : y.size <= 1000000) (w1 : World) => tell_any way y h2 w1)
 have hold' := Lib.hid hold
 clear hb hT hF hW ho hk hi t0 t1 t2 t4 hold
 unfold FileTo
 generalize hall : (cuts x.dat).map (partP (k : Int) ws) = all at *
 generalize hE : fileE ws (cuts x.dat) = E at *
 obtain ⟨xp, xk, xm, xd, xs⟩ := x
 simp only at t3 HJ0 hx
 clear hall hE
 go_enter Tryz.func25, Tryz.ntmps25
 go_upto_region 1 with fail
 refine wp_scope_goto 0 (PlA w pb M (.slice (some ⟨tg, tO, none⟩) items.length tc) (.slice (some ⟨fg, fo, none⟩) own.length fc) (.slice wp ws.length wc) ws (k : Int) old all E) (fun a _ => szAt7 a) rfl ?_ ?_
 ·intro HJ
  have HJ' := Lib.hid HJ
  clear HJ
  go_upto_region 1 with fail
  go_quiet (fail)
  go_step
  go_step
  refine wp_seq ?_
  go_step3
  go_step
  refine HJ'.out _ _ ?_
  exact PlA.mk rfl ⟨HJ0.out.bk.on ((Keeps.refl _ _).drewN _), HJ0.out.own.keep (F := NoB) ((Keeps.refl _ _).drewN _) (fun _ _ h => h), HJ0.out.len, HJ0.out.parts, HJ0.out.err, HJ0.out.keeps.drewN _⟩
 ·rintro a' w1 ⟨fz, s, dn, v, rfl, J⟩
  have HJ := Lib.hid J
  clear J HJ0 b0 b1 bl t3 f0
  by_cases h0 : s.size = 0
  ·have hse : s.toList.isEmpty = true := by rw [empty_size, decide_eq_true h0]
   have HA : Hid (dn = all ∧ 0 = E) := Lib.hid (by
    have h1 := HJ.out.parts
    have h2 := HJ.out.err
    rw [cuts_nil h0] at h1 h2
    rw [List.map_nil, List.append_nil] at h1
    exact ⟨h1, h2⟩)
   clear h0
   go_wp2
   simp only [Exit.jump]
   (try simp only [Exit.inBlock, Exit.then])
   go_ret
   rw [<- HA.out.2, <- HA.out.1]
   exact ⟨rfl, fun _ => ⟨v, HJ.out.bk, HJ.out.own⟩, HJ.out.keeps⟩
  ·have hse : s.toList.isEmpty = false := by rw [empty_size, decide_eq_false h0]
   have hs1 : 1 <= s.size := by omega
   have hs2 : s.size <= 1000000 := by have := HJ.out.len; omega
   have hrg := fstN_range s hs1
   have hF1 := Lib.hid (HFs.out s hs1 hs2)
   have hcs := cuts_step hs1
   have hP := HJ.out.parts
   have hE := HJ.out.err
   rw [hcs] at hP hE
   have hxs : (s.extract 0 (fstN s)).size = fstN s := by rw [ByteArray.size_extract]; omega
   have hrs : (s.extract (fstN s) s.size).size = s.size - fstN s := by rw [ByteArray.size_extract]; omega
   have HBs := Lib.hid (fun w2 hk2 => HB.out (s.extract 0 (fstN s)) (by omega) (by omega) w2 hk2)
   have HTs := Lib.hid (fun way w2 => HTe.out way (s.extract 0 (fstN s)) (by omega) w2)
   have HMs : Hid ((s.extract (fstN s) s.size).size < s.size) := Lib.hid (by omega)
   have HLn : Hid ((dn.length + 1) + (s.extract (fstN s) s.size).size <= 1000000) := Lib.hid (by have := HJ.out.len; omega)
   have hn1 : ((fstN s : Nat) : Int) <= (s.size : Int) := by omega
   have hn0 : (0 : Int) <= ((fstN s : Nat) : Int) := by omega
   have hs9 : (s.size : Int) <= 1000000 := by omega
   have HP : Hid (dn ++ ((s.extract 0 (fstN s) :: cuts (s.extract (fstN s) s.size)).map (partP (k : Int) ws)) = all) := hP
   have HE : Hid ((if (bestP ws (s.extract 0 (fstN s))).2 ≠ 0 then (bestP ws (s.extract 0 (fstN s))).2 else fileE ws (cuts (s.extract (fstN s) s.size))) = E) := hE
   clear h0 hcs hP hE hxs hrs hrg HFs hs1
   generalize hn : fstN s = n at *
   generalize hx : s.extract 0 n = y at *
   obtain ⟨B, hB⟩ : ∃ B, bestP ws y = B := ⟨_, rfl⟩
   have HPt : Hid (partP (k : Int) ws y = ⟨(k : Int), B.1, tellB B.1 y⟩) := Lib.hid (by unfold partP; rw [hB])
   rw [hB] at HE HBs
   obtain ⟨way, be⟩ := B
   have HTw := Lib.hid (fun w2 => HTs.out way w2)
   simp only at HE HBs HPt HTw
   have HJb := HJ.out.bk
   have b2 := HJb.cell 2 _ rfl
   have bl := HJb.lt
   clear hB hn
   by_cases hbe : be = 0
   ·subst hbe
    have HE2 := HE.out
    rw [if_neg (by simp)] at HE2
    have HE3 := Lib.hid HE2
    clear HE HE2 HJb
    generalize tellB way y = T at *
    go_upto_region 11 with (first | (go_at_call 40; go_loud (refine (hF1.out _).mono ?_); rintro e w2 ⟨rfl, hk2⟩; have HK2 := Lib.hid hk2; clear hk2) | (go_at_call 41; go_loud (refine (HBs.out _ (HJ.out.keeps.trans (HK2.out.mono (fun g _ (h : False) => h.elim)))).mono ?_); rintro e w3 ⟨rfl, hk3⟩; have HK3 := Lib.hid (HK2.out.trans hk3); clear hk3) | (go_at_call 42; go_loud (refine (HTw.out _).mono ?_); rintro e w4 ⟨rfl, hk4⟩; have HK4 := Lib.hid (HK3.out.trans hk4); clear hk4))
    have HJb4 := Lib.hid (HJ.out.bk.on HK4.out)
    have ho4 := Lib.hid (HJ.out.own.keep (F := NoB) HK4.out (fun _ _ h => h))
    have b4 := HJb4.out.cell 2 _ rfl
    have bl4 := HJb4.out.lt
    have HLit := Lib.hid (own_lit (E := encPrt) (e := 45) (w := w4) (S := fun _ => True) [⟨(k : Int), way, T⟩] #[.int .i64 (k : Int), .int .i64 way, .string T] rfl 1 rfl trivial (by decide))
    go_wp2_with (at_builtin; go_loud (refine wpl_append rfl (.tmp 56) (.tmp 61) rfl tPrt (ho4.out.keep (F := NoB) ((Keeps.refl _ _).alloc _) (fun _ _ h => h)) HLit.out.sl rfl rfl (by have h1 := HK4.out.size; have h2 := HJ.out.keeps.size; simp; omega) (by have h1 := HLn.out; have h2 := hold'.out; simp [maxLen]; omega) (by have h1 := HLn.out; have h2 := hold'.out; simp; omega) ?_))
    intro v' w5 ho5 hk5 hf5
    obtain ⟨gb, cap, cur, rfl, hMg, _, _, _, _, _⟩ := ho5.row (by simp; omega)
    rw [show (old ++ (dn ++ [(⟨(k : Int), way, T⟩ : Prt)])).length = old.length + (dn.length + 1) by simp] at ho5
    have hpM := hpb
    have hnb : ¬ (v.ownBlock = some pb) := fun e => by have := ho4.out.2 pb e; omega
    have HJb5 := Lib.hid ((HJb4.out.on ((Keeps.refl NoB w4).alloc (.cells #[.int .i64 (k : Int), .int .i64 way, .string T] 45))).keep hk5 hnb)
    have b5 := HJb5.out.cell 2 _ rfl
    have z5 := HJb5.out.fz 2
    have bl5 := HJb5.out.lt
    have HO5 := Lib.hid ho5
    have HK5 := Lib.hid (((HJ.out.keeps.trans (HK4.out.mono (fun g _ (h : False) => h.elim))).trans ((Keeps.refl (fun g => g = pb ∨ M <= g) w4).alloc (.cells #[.int .i64 (k : Int), .int .i64 way, .string T] 45))).step hk5 (fun g hg => .inl (.inr (ho4.out.2 g hg))))
    clear ho5 hk5 hf5
    go_wp2_with fail
    go_step3
    refine ⟨rfl, PlA.mk (s := s.extract n s.size) (dn := dn ++ [⟨(k : Int), way, T⟩]) (v := .slice (some ⟨gb, 0, none⟩) (old.length + (dn.length + 1)) cap) rfl ⟨HJb5.out.put 2 _, ?_, ?_, ?_, HE3.out, HK5.out.setCell (p := ⟨pb, 2, none⟩) (.inl (.inl rfl)) _⟩, ?_⟩
    ·exact HO5.out.keep (kset w5 ⟨pb, 2, none⟩ _) (fun g hg e => by have := HO5.out.2 g hg; rw [show g = pb from e] at this; omega)
    ·rw [List.length_append]
     exact HLn.out
    ·rw [List.append_assoc, <- HP.out, List.map_cons, HPt.out]
     rfl
    ·exact HMs.out
   ·have HE2 := HE.out
    rw [if_pos hbe] at HE2
    have HE3 := Lib.hid HE2
    have hbe' : (be != 0) = true := by simpa using hbe
    clear HE HE2 HJb
    go_wp2_with (first | (go_at_call 40; go_loud (refine (hF1.out _).mono ?_); rintro e w2 ⟨rfl, hk2⟩; have HK2 := Lib.hid hk2; clear hk2) | (go_at_call 41; go_loud (refine (HBs.out _ (HJ.out.keeps.trans (HK2.out.mono (fun g _ (h : False) => h.elim)))).mono ?_); rintro e w3 ⟨rfl, hk3⟩; have HK3 := Lib.hid (HK2.out.trans hk3); clear hk3))
    simp only [Exit.jump]
    (try simp only [Exit.inBlock, Exit.then])
    go_ret
    rw [<- HE3.out]
    exact ⟨rfl, fun h => absurd h hbe, HJ.out.keeps.trans (HK3.out.mono (fun g _ (h : False) => h.elim))⟩
theorem tItm : ElemT Tryz.prog encItm 23 42 ⟨⟨#[]⟩, 0, 0, ⟨#[]⟩, ⟨#[]⟩⟩ 64 :=
 .of (.agg #[.string ⟨#[]⟩, .int .i64 0, .int .i64 0, .string ⟨#[]⟩, .string ⟨#[]⟩]) Tryz.underlying23 (by kernel_rfl) rfl
theorem tInt26 : ElemT Tryz.prog encInt 24 3 0 8 := .of (.int .i64 0) Tryz.underlying24 (by kernel_rfl) rfl
def ownN (l : List Itm) : Nat -> List Int
 | 0 => []
 | k + 1 => ownN l k ++ (match l[k]? with | some x => if x.kind = 1 ∧ x.same = ⟨#[]⟩ then [(k : Int)] else [] | none => [])
theorem ownN_len (l : List Itm) : ∀ n, (ownN l n).length <= n
 | 0 => Nat.le_refl _
 | k + 1 => by
   have := ownN_len l k
   unfold ownN
   rw [List.length_append]
   split
   ·split <;> simp <;> omega
   ·simp; omega
theorem ownN_at (l : List Itm) : ∀ n (k : Nat) (i : Int), (ownN l n)[k]? = some i -> ∃ (j : Nat) (x : Itm), i = (j : Int) ∧ l[j]? = some x ∧ j < n ∧ x.kind = 1 ∧ x.same = ⟨#[]⟩
 | 0, k, i, h => by simp [ownN] at h
 | m + 1, k, i, h => by
   unfold ownN at h
   rw [List.getElem?_append] at h
   split at h
   ·obtain ⟨j, x, h1, h2, h3, h4⟩ := ownN_at l m k i h
    exact ⟨j, x, h1, h2, by omega, h4⟩
   ·rcases hx : l[m]? with _ | x
    ·rw [hx] at h; simp at h
    ·rw [hx] at h
     simp only at h
     split at h
     ·next hc =>
      have hm := List.mem_of_getElem? h
      obtain rfl := List.mem_singleton.1 hm
      exact ⟨m, x, rfl, hx, by omega, hc⟩
     ·simp at h
def datI (l : List Itm) (i : Int) : ByteArray := match l[i.toNat]? with
 | some x => x.dat
 | none => ⟨#[]⟩
def datsP (l : List Itm) : List ByteArray := (ownN l l.length).map (datI l)
def firstE (ws : List Int) : List ByteArray -> Int
 | [] => 0
 | s :: r => if fileE ws (cuts s) ≠ 0 then fileE ws (cuts s) else firstE ws r
def partsD (ws : List Int) : Nat -> List ByteArray -> List Prt
 | _, [] => []
 | k, s :: r => (cuts s).map (partP (k : Int) ws) ++ partsD ws (k + 1) r
def waysP (ws : List Int) : List Int := if ws.length = 0 then [1, 2, 3] else ws
theorem cuts_len (s : ByteArray) : ∀ n, s.size <= n -> (cuts s).length <= s.size
 | 0, h => by rw [cuts_nil (by omega)]; exact Nat.zero_le _
 | n + 1, h => by
   by_cases h0 : s.size = 0
   ·rw [cuts_nil h0]; exact Nat.zero_le _
   ·have hr := fstN_range s (by omega)
    have ih := cuts_len (s.extract (fstN s) s.size) n (by rw [ByteArray.size_extract]; omega)
    rw [cuts_step (by omega), List.length_cons]
    rw [ByteArray.size_extract] at ih
    omega
def zPl : Value := .agg #[.slice none 0 0, .slice none 0 0, .slice none 0 0]
def MakeTo (l : List Itm) (ws : List Int) (w : World) (e : Ending) (w' : World) : Prop :=
 Keeps NoB w w' ∧
 if (ckE l).1 ≠ 0 then e = .returned (.tuple #[zPl, .int .i64 (ckE l).1])
 else if firstE (waysP ws) (datsP l) ≠ 0 then e = .returned (.tuple #[zPl, .int .i64 (firstE (waysP ws) (datsP l))])
 else ∃ tv fv pv, e = .returned (.tuple #[.agg #[tv, fv, pv], .int .i64 0]) ∧ Own encItm 42 (fun g => w.heap.size <= g) w' tv l ∧ Own encInt 3 (fun g => w.heap.size <= g) w' fv (ownN l l.length) ∧
  Own encPrt 45 (fun g => w.heap.size <= g) w' pv (partsD (waysP ws) 0 (datsP l))
theorem MakeTo.no1 {l : List Itm} {ws : List Int} {w : World} {e : Ending} {w' : World} (k : Keeps NoB w w') (h : (ckE l).1 ≠ 0) (he : e = .returned (.tuple #[zPl, .int .i64 (ckE l).1])) : MakeTo l ws w e w' := ⟨k, by rw [if_pos h]; exact he⟩
theorem MakeTo.no2 {l : List Itm} {ws : List Int} {w : World} {e : Ending} {w' : World} (k : Keeps NoB w w') (h : ¬ (ckE l).1 ≠ 0) (h2 : firstE (waysP ws) (datsP l) ≠ 0) (he : e = .returned (.tuple #[zPl, .int .i64 (firstE (waysP ws) (datsP l))])) : MakeTo l ws w e w' :=
 ⟨k, by rw [if_neg h, if_pos h2]; exact he⟩
theorem MakeTo.yes {l : List Itm} {ws : List Int} {w : World} {e : Ending} {w' : World} (k : Keeps NoB w w') (h : ¬ (ckE l).1 ≠ 0) (h2 : ¬ firstE (waysP ws) (datsP l) ≠ 0) {tv fv pv : Value} (he : e = .returned (.tuple #[.agg #[tv, fv, pv], .int .i64 0]))
 (ht : Own encItm 42 (fun g => w.heap.size <= g) w' tv l) (hf : Own encInt 3 (fun g => w.heap.size <= g) w' fv (ownN l l.length)) (hp : Own encPrt 45 (fun g => w.heap.size <= g) w' pv (partsD (waysP ws) 0 (datsP l))) : MakeTo l ws w e w' :=
 ⟨k, by rw [if_neg h, if_neg h2]; exact ⟨tv, fv, pv, he, ht, hf, hp⟩⟩
structure GnI (l : List Itm) (ws : List Int) (w : World) (pb gt : Nat) (tv : Value) (wp : Option Addr) (wc : Nat) (wr : World) (n : Nat) (fv : Value) : Prop where
 pbk : Bk wr pb [tv, fv, .slice none 0 0]
 rb : Bk wr w.heap.size [.slice none 0 0, .slice none 0 0, .slice none 0 0]
 tree : Own encItm 42 (fun g => g = gt) wr tv l
 files : Own encInt 3 (fun g => pb < g) wr fv (ownN l n)
 ways : SlAt encInt (fun g => g < pb) wr wp wc ws
 keeps : Keeps NoB w wr
theorem GnI.on {l : List Itm} {ws : List Int} {w : World} {pb gt : Nat} {tv : Value} {wp : Option Addr} {wc : Nat} {wr w' : World} {n : Nat} {fv : Value} (h : GnI l ws w pb gt tv wp wc wr n fv) (k : Keeps NoB wr w') : GnI l ws w pb gt tv wp wc w' n fv :=
 ⟨h.pbk.on k, h.rb.on k, h.tree.keep k (fun _ _ h => h), h.files.keep k (fun _ _ h => h), h.ways.keepN k, h.keeps.trans k⟩
structure GnJ (l : List Itm) (ws : List Int) (w : World) (pb gt M : Nat) (tv fv : Value) (wp : Option Addr) (wc : Nat) (all : List Prt) (E : Int) (wr : World) (k : Nat) (pv : Value) (old : List Prt) : Prop where
 pbk : Bk wr pb [tv, fv, pv]
 rb : Bk wr w.heap.size [.slice none 0 0, .slice none 0 0, .slice none 0 0]
 tree : Own encItm 42 (fun g => g = gt) wr tv l
 files : Own encInt 3 (fun g => pb < g ∧ g < M) wr fv (ownN l l.length)
 ways : SlAt encInt (fun g => g < pb) wr wp wc ws
 parts : Own encPrt 45 (fun g => M <= g) wr pv old
 len : old.length <= k * 500000
 eq : old ++ partsD ws k ((datsP l).drop k) = all
 err : firstE ws ((datsP l).drop k) = E
 size : M <= wr.heap.size
 keeps : Keeps NoB w wr
theorem GnJ.on {l : List Itm} {ws : List Int} {w : World} {pb gt M : Nat} {tv fv : Value} {wp : Option Addr} {wc : Nat} {all : List Prt} {E : Int} {wr w' : World} {k : Nat} {pv : Value} {old : List Prt} (h : GnJ l ws w pb gt M tv fv wp wc all E wr k pv old) (kp : Keeps NoB wr w') :
 GnJ l ws w pb gt M tv fv wp wc all E w' k pv old :=
 ⟨h.pbk.on kp, h.rb.on kp, h.tree.keep kp (fun _ _ h => h), h.files.keep kp (fun _ _ h => h), h.ways.keepN kp, h.parts.keep kp (fun _ _ h => h), h.len, h.eq, h.err, Nat.le_trans h.size kp.size, h.keeps.trans kp⟩
def WaysTo (ws : List Int) (w : World) (v : Value) (wx : World) : Prop :=
 ∃ wp wc, v = .slice wp (waysP ws).length wc ∧ SlAt encInt (fun g => g < wx.heap.size) wx wp wc (waysP ws) ∧ Bk wx w.heap.size [.slice none 0 0, .slice none 0 0, .slice none 0 0] ∧ Keeps NoB w wx
theorem SlAt.mono' {α : Type} {E : Enc α} {S S' : Nat -> Prop} {w : World} {p : Option Addr} {c : Nat} {l : List α} (h : SlAt E S w p c l) (hS : ∀ g, S g -> S' g) : SlAt E S' w p c l :=
 ⟨h.cap, h.max, h.nilc, h.spot, fun h0 => by
   obtain ⟨g, off, hp, hSg, hg, hc⟩ := h.cells h0
   exact ⟨g, off, hp, hS g hSg, hg, hc⟩⟩
theorem SlAt.below {α : Type} {E : Enc α} {S : Nat -> Prop} {w : World} {p : Option Addr} {c : Nat} {l : List α} (h : SlAt E S w p c l) : SlAt E (fun g => g < w.heap.size) w p c l :=
 ⟨h.cap, h.max, h.nilc, h.spot, fun h0 => by
   obtain ⟨g, off, hp, hS, hg, hc⟩ := h.cells h0
   exact ⟨g, off, hp, hg, hg, hc⟩⟩
theorem results_cell_tmp1G {fn : Func} {p u : Tmp} {ty : TypeId} (h : fn.results = #[.cell p ty, .tmp u]) (tmps : Array Value) (P : Program) (w : World) :
 (results fn tmps).run P w = ((asAddr (tmps.getD p undef)).run P w).andThen fun a w₁ => ((loadVar ty a).run P w₁).andThen fun v w₂ => .ok (.tuple #[v, tmps.getD u undef]) w₂ := by
 simp only [results, h]
 simp [Sem.run_bind, Result.andThen]
theorem make_any (l : List Itm) (hl : ∀ i ∈ l, i.p.size <= 1000000 ∧ i.dat.size <= 500000) (ws : List Int) (hws : ws.length <= 1000) (w : World) {S1 S2 : Nat -> Prop} {p wp : Option Addr} {cp wc : Nat} (hS : SlAt encItm S1 w p cp l) (hW : SlAt encInt S2 w wp wc ws) :
 Calls Tryz.prog 10 #[.slice p l.length cp, .slice wp ws.length wc] w fun e w' => MakeTo l ws w e w' := by
 have HC := Lib.hid (fun w1 (hk : Keeps NoB w w1) => check_any l (fun i hi => (hl i hi).1) w1 (hS.keep hk (fun _ _ _ h => h)))
 have HS := Lib.hid hS
 have HW := Lib.hid hW
 have hcap := hS.cap
 have hmax := hS.max
 have hwcap := hW.cap
 have hwmax := hW.max
 unfold maxLen at hmax hwmax
 have k0 : Keeps NoB w (w.alloc (.cells #[.slice none 0 0, .slice none 0 0, .slice none 0 0] 31)) := (Keeps.refl _ _).alloc _
 have HB0 := Lib.hid (Bk.new (Keeps.refl NoB (w.alloc (.cells #[.slice none 0 0, .slice none 0 0, .slice none 0 0] 31))))
 have HK0 := Lib.hid k0
 by_cases hck : (ckE l).1 ≠ 0
 ·have HCk := Lib.hid hck
  obtain ⟨R, hR⟩ : ∃ R, (ckE l).1 = R := ⟨_, rfl⟩
  have hRn : (R != 0) = true := by rw [<- hR]; simpa using hck
  have HR := Lib.hid hR
  have HC' := Lib.hid (HC.out _ k0)
  rw [hR] at HC'
  clear hck hS hW HC k0 hR
  go_enter Tryz.func10, Tryz.ntmps10
  go_wp2_with (go_at_call 24; go_loud (refine HC'.out.mono ?_); rintro e w1 ⟨rfl, hk1⟩; have hb1 := HB0.out.on hk1; have b0 := hb1.cell 0 _ rfl; have b1 := hb1.cell 1 _ rfl; have b2 := hb1.cell 2 _ rfl; have bl := hb1.lt; have z0 := hb1.fz 0; have z1 := hb1.fz 1; have z2 := hb1.fz 2; have HK1 := Lib.hid (HK0.out.trans hk1))
  refine bodyPost_ret (by rw [results_cell_tmp1G rfl]; go_simp; rfl) rfl ?_
  refine MakeTo.no1 (((HK1.out.setCell (p := ⟨w.heap.size, 0, none⟩) (.inr (Nat.le_refl _)) _).setCell (p := ⟨w.heap.size, 1, none⟩) (.inr (Nat.le_refl _)) _).setCell (p := ⟨w.heap.size, 2, none⟩) (.inr (Nat.le_refl _)) _) HCk.out ?_
  rw [HR.out]
  rfl
 ·have hR : (ckE l).1 = 0 := by simpa using hck
  have HCk := Lib.hid hck
  have hl0 : 0 < l.length ∧ l.length <= 4096 := by
   unfold ckE at hR
   by_cases h0 : l.length = 0
   ·rw [if_pos h0] at hR
    exact absurd hR (by decide)
   ·rw [if_neg h0] at hR
    by_cases h9 : 4096 < l.length
    ·rw [if_pos h9] at hR
     exact absurd hR (by decide)
    ·omega
  have HC' := Lib.hid (HC.out _ k0)
  rw [hR] at HC'
  obtain ⟨hl1, hl2⟩ := hl0
  have HL := Lib.hid hl
  obtain ⟨bz, hbz⟩ : ∃ bz, ((ws.length : Int) == 0) = bz := ⟨_, rfl⟩
  have hnil : (ws.length = 0 ∧ bz = true) ∨ (0 < ws.length ∧ bz = false) := by
   by_cases h : ws.length = 0
   ·exact .inl ⟨h, by rw [<- hbz]; simp [h]⟩
   ·exact .inr ⟨by omega, by rw [<- hbz]; simpa using h⟩
  have Hnil := Lib.hid hnil
  have HWn : Hid (ws.length = 0 -> waysP ws = [1, 2, 3]) := Lib.hid (fun h => if_pos h)
  have HWy : Hid (0 < ws.length -> waysP ws = ws) := Lib.hid (fun h => if_neg (by omega))
  have HWl : Hid (1 <= (waysP ws).length ∧ (waysP ws).length <= 1000) := Lib.hid (by
   unfold waysP
   split
   ·exact ⟨by decide, by decide⟩
   ·exact ⟨by omega, hws⟩)
  clear hck hS hW HC k0 hR hl hws hnil
  generalize (ckE l).2 = R2 at *
  go_enter Tryz.func10, Tryz.ntmps10
  go_upto_if 24 with (go_at_call 24; go_loud (refine HC'.out.mono ?_); rintro e w1 ⟨rfl, hk1⟩; have hb1 := HB0.out.on hk1; have HB1 := Lib.hid hb1; have HK1 := Lib.hid (HK0.out.trans hk1); clear hk1 hb1)
  go_cut [1] from 25 to 25 (fun v wx => WaysTo ws w v wx)
  case first =>
   rcases Hnil.out with ⟨h0', rfl⟩ | ⟨h0', rfl⟩ <;> have h0 := Lib.hid h0' <;> clear h0'
   ·have HLit := Lib.hid (own_lit (E := encInt) (e := 3) (w := w1) (S := fun _ => True) [1, 2, 3] #[.int .i64 1, .int .i64 2, .int .i64 3] rfl 3 rfl trivial (by decide))
    go_wp2
    go_meet
    obtain ⟨p2, c2, he2, hs2⟩ := HLit.out.sl
    cases he2
    refine ⟨some ⟨w1.heap.size, 0, none⟩, 3, ?_, ?_, HB1.out.on ((Keeps.refl _ _).alloc _), HK1.out.alloc _⟩
    ·rw [HWn.out h0.out]; rfl
    ·rw [HWn.out h0.out]; exact hs2.below
   ·go_wp2
    go_meet
    refine ⟨wp, wc, ?_, ?_, HB1.out, HK1.out⟩
    ·rw [HWy.out h0.out]
    ·rw [HWy.out h0.out]; exact (HW.out.keepN HK1.out).below
  case rest =>
   obtain ⟨wp', wc', rfl, hwx, hbx, hkx⟩ := hcut
   generalize hws' : waysP ws = ws' at *
   have HWx := Lib.hid hwx
   have HBx := Lib.hid hbx
   have HKx := Lib.hid hkx
   clear hwx hbx hkx Hnil HWn HWy HB1 HK1 HC' hbz
   go_upto_region 6 with fail
   go_wp2_with (at_builtin; go_loud (refine wpl_append rfl (.const (.slice none 0 0)) (.tmp 26) rfl tItm (Own.nil encItm 42 (fun g => wc.heap.size <= g) _) ⟨p, cp, rfl, HS.out.keepN HKx.out⟩ rfl rfl (Nat.le_refl _) (by simp [maxLen]; omega) (by simp; omega) ?_))
   intro tv w2 ho2 hk2 hf2
   obtain ⟨gt, tcap, tcur, rfl, hgt, _, _, htm, _, _⟩ := ho2.row hl1
   have hown2 : Own encItm 42 (fun g => g = gt) w2 (.slice (some ⟨gt, 0, none⟩) l.length tcap) l := ⟨ho2.1, fun g hg => by cases hg; rfl⟩
   have hgl : gt < w2.heap.size := ho2.lt gt rfl
   have hk2' : Keeps NoB wc w2 := ⟨hk2.os, hk2.tape, hk2.output, hk2.size, fun i hi _ => hk2.block i hi (fun e => by cases e)⟩
   have ka : Keeps NoB w2 (w2.alloc (.cells #[.slice (some ⟨gt, 0, none⟩) l.length tcap, .slice none 0 0, .slice none 0 0] 31)) := (Keeps.refl _ _).alloc _
   have HG : Hid (GnI l ws' w w2.heap.size gt (.slice (some ⟨gt, 0, none⟩) l.length tcap) wp' wc' (w2.alloc (.cells #[.slice (some ⟨gt, 0, none⟩) l.length tcap, .slice none 0 0, .slice none 0 0] 31)) 0 (.slice none 0 0)) :=
    Lib.hid ⟨Bk.new (Keeps.refl NoB _), (HBx.out.on hk2').on ka, hown2.keep ka (fun _ _ h => h), Own.nil _ _ _ _, ((HWx.out.keepN hk2').keepN ka).mono' (fun g hg => Nat.lt_of_lt_of_le hg hk2'.size), (HKx.out.trans hk2').trans ka⟩
   have HGl := Lib.hid hgl
   have HTw : Hid (w.heap.size <= gt ∧ gt ≠ w.heap.size) := Lib.hid (by have h1 : wc.heap.size <= gt := hgt; have := HBx.out.lt; constructor <;> omega)
   have HQ : Hid (w.heap.size ≠ w2.heap.size ∧ w.heap.size <= w2.heap.size) := Lib.hid ⟨by have := HBx.out.lt; have := hk2'.size; omega, by have := HBx.out.lt; have := hk2'.size; omega⟩
   clear ho2 hk2 hf2 hown2 hgl hk2' ka HBx HKx HWx
   go_upto_region 8 with fail
   generalize w2.alloc (.cells #[.slice (some ⟨gt, 0, none⟩) l.length tcap, .slice none 0 0, .slice none 0 0] 31) = w3 at *
   generalize w2.heap.size = pb at *
   have hpb := HG.out.keeps.size
   go_loopw [31] (fun i wr => ∃ (n : Nat) (fv : Value), n <= l.length ∧ i = .int .i64 n ∧ GnI l ws' w pb gt (.slice (some ⟨gt, 0, none⟩) l.length tcap) wp' wc' wr n fv) (fun i _ => l.length + 1 - (intOf i).toNat)
   case atStart => exact ⟨0, _, Nat.zero_le _, rfl, HG.out⟩
   case round =>
    rename World => wr
    obtain ⟨n, fv, hn, rfl, hG⟩ := hrel
    by_cases hlt : n < l.length
    ·obtain ⟨x, hx⟩ : ∃ x, l[n]? = some x := ⟨_, List.getElem?_eq_getElem hlt⟩
     obtain ⟨g, o, rfl, _, hgl, c0, c1, c2, c3, c4⟩ := HS.out.itm hx
     have hkc : ∀ (j : Nat) v, w.cell? ⟨g, j, none⟩ = some v -> wr.cell? ⟨g, j, none⟩ = some v := fun j v h => (hG.keeps.cell (p := ⟨g, j, none⟩) hgl (fun h => h)).trans h
     have d0 := hkc _ _ c0
     have d1 := hkc _ _ c1
     have d2 := hkc _ _ c2
     have d3 := hkc _ _ c3
     have d4 := hkc _ _ c4
     have dl := lt_of_cell d0
     have HO : Hid (ownN l (n + 1) = ownN l n ++ (if x.kind = 1 ∧ x.same = ⟨#[]⟩ then [(n : Int)] else [])) := Lib.hid (by rw [ownN, hx])
     have hol : (ownN l n).length <= n := ownN_len l n
     obtain ⟨xp, xk, xm, xd, xs⟩ := x
     simp only at d0 d1 d2 d3 d4 HO
     have ka : Keeps NoB wr (wr.alloc (.cells #[.string xp, .int .i64 xk, .int .i64 xm, .string xd, .string xs] 42)) := (Keeps.refl _ _).alloc _
     have HGa := Lib.hid (hG.on ka)
     have HG0 := Lib.hid hG
     clear hkc c0 c1 c2 c3 c4 hx
     by_cases hk1 : xk = 1
     ·subst hk1
      by_cases hs1 : xs = ⟨#[]⟩
      ·subst hs1
       have HO2 := HO.out
       rw [if_pos ⟨rfl, rfl⟩] at HO2
       have HO3 := Lib.hid HO2
       have pb1 := hG.pbk.cell 1 _ rfl
       have pbl := hG.pbk.lt
       have hlit := own_lit (E := encInt) (e := 3) (w := wr.alloc (.cells #[.string xp, .int .i64 1, .int .i64 xm, .string xd, .string ⟨#[]⟩] 42)) (S := fun _ => True) [(n : Int)] #[.int .i64 (n : Int)] rfl 1 rfl trivial (by decide)
       rw [show (wr.alloc (.cells #[.string xp, .int .i64 1, .int .i64 xm, .string xd, .string ⟨#[]⟩] 42)).heap.size = wr.heap.size + 1 by simp] at hlit
       have HLit := Lib.hid hlit
       have ka2 : Keeps NoB (wr.alloc (.cells #[.string xp, .int .i64 1, .int .i64 xm, .string xd, .string ⟨#[]⟩] 42)) ((wr.alloc (.cells #[.string xp, .int .i64 1, .int .i64 xm, .string xd, .string ⟨#[]⟩] 42)).alloc (.cells #[.int .i64 (n : Int)] 3)) := (Keeps.refl _ _).alloc _
       have HGb := Lib.hid (HGa.out.on ka2)
       clear HO HO2 hG ka ka2 hlit
       go_wp2_with (at_builtin; go_loud (refine wpl_append rfl (.tmp 45) (.tmp 47) rfl tInt26 HGb.out.files HLit.out.sl rfl rfl (by have h1 := HGb.out.pbk.lt; exact h1) (by simp [maxLen]; omega) (by simp; omega) ?_))
       intro fv' w5 ho5 hk5 hf5
       rw [<- HO3.out] at ho5
       obtain ⟨gb, cap, cur, rfl, hMg, _, _, _, _, _⟩ := ho5.row (by rw [HO3.out]; simp)
       have hnf : ∀ b, b <= pb -> ¬ (fv.ownBlock = some b) := fun b hb e => by have := HGb.out.files.2 b e; omega
       have HP5 := Lib.hid (HGb.out.pbk.keep hk5 (hnf pb (Nat.le_refl _)))
       have HN5 : Hid (GnI l ws' w pb gt (.slice (some ⟨gt, 0, none⟩) l.length tcap) wp' wc' (w5.setCell ⟨pb, 1, none⟩ (.slice (some ⟨gb, 0, none⟩) (ownN l (n + 1)).length cap)) (n + 1) (.slice (some ⟨gb, 0, none⟩) (ownN l (n + 1)).length cap)) := Lib.hid
        ⟨HP5.out.put 1 _, (HGb.out.rb.keep hk5 (hnf _ HQ.out.2)).keep (kset w5 ⟨pb, 1, none⟩ _) (fun e => by have h1 : w.heap.size = pb := e; have := HQ.out.1; omega),
          (HGb.out.tree.keep hk5 (fun g hg => by cases hg; exact hnf gt (Nat.le_of_lt HGl.out))).keep (kset w5 ⟨pb, 1, none⟩ _) (fun g hg e => by cases hg; have h1 : gt = pb := e; have := HGl.out; omega),
          ho5.keep (kset w5 ⟨pb, 1, none⟩ _) (fun g hg e => by have h1 : g = pb := e; have := ho5.2 g hg; omega),
          (HGb.out.ways.keep hk5 (fun g hg _ => hnf g (Nat.le_of_lt hg))).keep (kset w5 ⟨pb, 1, none⟩ _) (fun g hg _ e => by have h1 : g = pb := e; omega),
          (HGb.out.keeps.step hk5 (fun g hg => .inr (by have := HGb.out.files.2 g hg; have := HQ.out.2; omega))).setCell (p := ⟨pb, 1, none⟩) (.inr HQ.out.2) _⟩
       have p5 := HP5.out.cell 1 _ rfl
       have z5 := HP5.out.fz 1
       have l5 := HP5.out.lt
       clear ho5 hk5 hf5 hnf
       go_wp2_with fail
       go_roundw
       case rel => exact ⟨n + 1, _, by omega, by go_num, HN5.out⟩
       case measure => (simp [intOf]) <;> omega
      ·have HO2 := HO.out
       rw [if_neg (fun h => hs1 h.2)] at HO2
       have hsn : (xs.toList.isEmpty) = false := by simpa using notEmpty_eq hs1
       rw [List.append_nil] at HO2
       have HN : Hid (GnI l ws' w pb gt (.slice (some ⟨gt, 0, none⟩) l.length tcap) wp' wc' (wr.alloc (.cells #[.string xp, .int .i64 1, .int .i64 xm, .string xd, .string xs] 42)) (n + 1) fv) := Lib.hid ⟨HGa.out.pbk, HGa.out.rb, HGa.out.tree, by rw [HO2]; exact HGa.out.files, HGa.out.ways, HGa.out.keeps⟩
       clear HO HO2 hG ka hs1
       go_wp2
       go_roundw
       case rel => exact ⟨n + 1, _, by omega, by go_num, HN.out⟩
       case measure => (simp [intOf]) <;> omega
     ·have HO2 := HO.out
      rw [if_neg (fun h => hk1 h.1)] at HO2
      have hkn : (xk == 1) = false := by simpa using hk1
      rw [List.append_nil] at HO2
      have HN : Hid (GnI l ws' w pb gt (.slice (some ⟨gt, 0, none⟩) l.length tcap) wp' wc' (wr.alloc (.cells #[.string xp, .int .i64 xk, .int .i64 xm, .string xd, .string xs] 42)) (n + 1) fv) := Lib.hid ⟨HGa.out.pbk, HGa.out.rb, HGa.out.tree, by rw [HO2]; exact HGa.out.files, HGa.out.ways, HGa.out.keeps⟩
      clear HO HO2 hG ka hk1
      go_wp2
      go_roundw
      case rel => exact ⟨n + 1, _, by omega, by go_num, HN.out⟩
      case measure => (simp [intOf]) <;> omega
    ·obtain rfl : n = l.length := by omega
     obtain ⟨fp, fc, rfl, hfa⟩ := hG.files.sl
     have hom := hfa.max
     have hoc := hfa.cap
     unfold maxLen at hom
     have HG0 := Lib.hid hG
     have hHQ1 := HQ.out.1
     have hHQ2 := HQ.out.2
     have hgtp := HGl.out
     have p1 := hG.pbk.cell 1 _ rfl
     have p0l := hG.pbk.lt
     obtain ⟨all, hall⟩ : ∃ all, partsD ws' 0 (datsP l) = all := ⟨_, rfl⟩
     obtain ⟨E, hE⟩ : ∃ E, firstE ws' (datsP l) = E := ⟨_, rfl⟩
     have HAll := Lib.hid hall
     have HE := Lib.hid hE
     have HJ0 : Hid (GnJ l ws' w pb gt wr.heap.size (.slice (some ⟨gt, 0, none⟩) l.length tcap) (.slice fp (ownN l l.length).length fc) wp' wc' all E wr 0 (.slice none 0 0) []) := Lib.hid
      ⟨hG.pbk, hG.rb, hG.tree, ⟨hG.files.1, fun g hg => ⟨hG.files.2 g hg, hG.files.lt g hg⟩⟩, hG.ways, Own.nil _ _ _ _, Nat.zero_le _, by rw [List.drop_zero, hall]; rfl, by rw [List.drop_zero, hE], Nat.le_refl _, hG.keeps⟩
     have hol := ownN_len l l.length
     have hMl : pb < wr.heap.size := p0l
     clear hall hE hfa hG
     generalize hM : wr.heap.size = M at *
     go_upto_region 14 with fail
     go_loopw [54] (fun i wy => ∃ (k : Nat) (pv : Value) (old : List Prt), k <= (ownN l l.length).length ∧ i = .int .i64 k ∧ GnJ l ws' w pb gt M (.slice (some ⟨gt, 0, none⟩) l.length tcap) (.slice fp (ownN l l.length).length fc) wp' wc' all E wy k pv old) (fun i _ => (ownN l l.length).length + 1 - (intOf i).toNat)
     case atStart => exact ⟨0, _, [], Nat.zero_le _, rfl, HJ0.out⟩
     case round =>
      rename World => wy
      obtain ⟨k, pv, old, hk, rfl, hJ⟩ := hrel
      have HJ := Lib.hid hJ
      by_cases hkt : k < (ownN l l.length).length
      ·obtain ⟨io, hio⟩ : ∃ io, (ownN l l.length)[k]? = some io := ⟨_, List.getElem?_eq_getElem hkt⟩
       obtain ⟨j, x, rfl, hx, hjl, _⟩ := ownN_at l _ k _ hio
       have hdk : (datsP l).drop k = x.dat :: (datsP l).drop (k + 1) := by
        have hlen : (datsP l).length = (ownN l l.length).length := by unfold datsP; rw [List.length_map]
        have hget : (datsP l)[k]? = some x.dat := by
         unfold datsP
         rw [List.getElem?_map, hio]
         show some (datI l (j : Int)) = _
         unfold datI
         rw [show ((j : Int)).toNat = j from rfl, hx]
        rw [List.drop_eq_getElem_cons (by omega)]
        congr 1
        exact Option.some.inj ((List.getElem?_eq_getElem (by omega)).symm.trans hget)
       have hxl := HL.out x (List.mem_of_getElem? hx)
       have hF := file_any wy pb M l (ownN l l.length) ws' old (some ⟨gt, 0, none⟩) fp wp' tcap fc wc' pv k j x hJ.pbk hMl hJ.size
        (hJ.tree.at.mono' (fun g hg => by cases hg; exact ⟨by omega, by omega⟩)) (hJ.files.at.mono' (fun g hg => ⟨hg.2, by omega⟩)) (hJ.ways.mono' (fun g hg => ⟨by omega, by omega⟩)) hJ.parts hio hx hxl.2 HWl.out.1 HWl.out.2 (by have := hJ.len; omega)
       have hqe := hJ.eq
       have her := hJ.err
       rw [hdk] at hqe her
       have hcl := cuts_len x.dat x.dat.size (Nat.le_refl _)
       have HF := Lib.hid hF
       have HQe : Hid (old ++ ((cuts x.dat).map (partP (k : Int) ws') ++ partsD ws' (k + 1) ((datsP l).drop (k + 1))) = all) := Lib.hid hqe
       have HEr : Hid ((if fileE ws' (cuts x.dat) ≠ 0 then fileE ws' (cuts x.dat) else firstE ws' ((datsP l).drop (k + 1))) = E) := Lib.hid her
       have HCl := Lib.hid (Nat.le_trans hcl hxl.2)
       unfold FileTo at HF
       clear hF hqe her hcl hdk hio hx hjl hxl hJ
       generalize fileE ws' (cuts x.dat) = fe at *
       by_cases hfe : fe = 0
       ·have HEr2 := Lib.hid ((if_neg (by simpa using hfe)).symm.trans HEr.out)
        subst hfe
        go_wp2_with (go_at_call 25; go_loud (refine HF.out.mono ?_); rintro e w6 ⟨rfl, hz6, hk6⟩; obtain ⟨pv', hb6, ho6⟩ := hz6 rfl)
        have hlow : ∀ g, g < M -> g ≠ pb -> ¬ (g = pb ∨ M <= g) := fun g h1 h2 h => by rcases h with h | h <;> omega
        have HJ6 : Hid (GnJ l ws' w pb gt M (.slice (some ⟨gt, 0, none⟩) l.length tcap) (.slice fp (ownN l l.length).length fc) wp' wc' all E w6 (k + 1) pv' (old ++ (cuts x.dat).map (partP (k : Int) ws'))) := Lib.hid
         ⟨hb6, HJ.out.rb.keep hk6 (hlow _ (by omega) hHQ1), HJ.out.tree.keep hk6 (fun g hg => by cases hg; exact hlow gt (by omega) (by omega)), HJ.out.files.keep hk6 (fun g hg => by have := HJ.out.files.2 g hg; exact hlow g this.2 (by omega)),
           HJ.out.ways.keep hk6 (fun g hg _ => hlow g (by omega) (by omega)), ho6, by have h1 := HJ.out.len; have h2 := HCl.out; rw [List.length_append, List.length_map]; omega, by rw [List.append_assoc]; exact HQe.out, HEr2.out, Nat.le_trans HJ.out.size hk6.size,
           HJ.out.keeps.step hk6 (fun g hg => .inr (by rcases hg with h | h <;> omega))⟩
        clear hb6 ho6 hk6 hlow
        go_roundw
        case rel => exact ⟨k + 1, _, _, by omega, by go_num, HJ6.out⟩
        case measure => (simp [intOf]) <;> omega
       ·have HEr2 := Lib.hid ((if_pos (by simpa using hfe)).symm.trans HEr.out)
        have hfb : (fe != 0) = true := by simpa using hfe
        have HFe := Lib.hid hfe
        clear hfe
        go_wp2_with (go_at_call 25; go_loud (refine HF.out.mono ?_); rintro e w6 ⟨rfl, hz6, hk6⟩; have hb1 := HJ.out.rb.keep hk6 (fun h => by rcases h with h | h <;> omega); have b0 := hb1.cell 0 _ rfl; have b1 := hb1.cell 1 _ rfl; have b2 := hb1.cell 2 _ rfl; have bl := hb1.lt; have z0 := hb1.fz 0; have z1 := hb1.fz 1; have z2 := hb1.fz 2; have HK6 := Lib.hid (HJ.out.keeps.step hk6 (fun g hg => .inr (by rcases hg with h | h <;> omega))); clear hz6 hk6 hb1)
        refine bodyPost_ret (by rw [results_cell_tmp1G rfl]; go_simp; rfl) rfl ?_
        refine MakeTo.no2 (((HK6.out.setCell (p := ⟨w.heap.size, 0, none⟩) (.inr (Nat.le_refl _)) _).setCell (p := ⟨w.heap.size, 1, none⟩) (.inr (Nat.le_refl _)) _).setCell (p := ⟨w.heap.size, 2, none⟩) (.inr (Nat.le_refl _)) _) HCk.out ?_ ?_
        ·rw [hws', HE.out, <- HEr2.out]
         exact HFe.out
        ·rw [hws', HE.out, <- HEr2.out]
         rfl
      ·obtain rfl : k = (ownN l l.length).length := by omega
       obtain ⟨pp, pc, rfl, _⟩ := hJ.parts.sl
       have hlen : (datsP l).length = (ownN l l.length).length := by unfold datsP; rw [List.length_map]
       have hqe := hJ.eq
       have her := hJ.err
       rw [<- hlen, List.drop_length] at hqe her
       have HQe : Hid (old = all) := Lib.hid (by rw [<- hqe]; exact (List.append_nil _).symm)
       have HEr : Hid (0 = E) := Lib.hid her
       have q0 := hJ.pbk.cell 0 _ rfl
       have q1 := hJ.pbk.cell 1 _ rfl
       have q2 := hJ.pbk.cell 2 _ rfl
       have b0 := hJ.rb.cell 0 _ rfl
       have b1 := hJ.rb.cell 1 _ rfl
       have b2 := hJ.rb.cell 2 _ rfl
       have bl := hJ.rb.lt
       have z0 := hJ.rb.fz 0
       have z1 := hJ.rb.fz 1
       have z2 := hJ.rb.fz 2
       clear hJ hlen hqe her
       go_wp2
       refine bodyPost_ret (by rw [results_cell_tmp1G rfl]; go_simp; rfl) rfl ?_
       have kz : Keeps (fun g => g = w.heap.size) wy (((wy.setCell ⟨w.heap.size, 0, none⟩ (.slice (some ⟨gt, 0, none⟩) l.length tcap)).setCell ⟨w.heap.size, 1, none⟩ (.slice fp (ownN l l.length).length fc)).setCell ⟨w.heap.size, 2, none⟩ (.slice pp old.length pc)) :=
        Keeps.setCell (F := fun g => g = w.heap.size) (Keeps.setCell (F := fun g => g = w.heap.size) (Keeps.setCell (F := fun g => g = w.heap.size) (Keeps.refl _ wy) (p := ⟨w.heap.size, 0, none⟩) (.inl rfl) _) (p := ⟨w.heap.size, 1, none⟩) (.inl rfl) _) (p := ⟨w.heap.size, 2, none⟩) (.inl rfl) _
       have hgtw : w.heap.size <= gt ∧ gt ≠ w.heap.size := HTw.out
       refine MakeTo.yes (HJ.out.keeps.step kz (fun g hg => .inr (Nat.le_of_eq hg.symm))) HCk.out (by rw [hws', HE.out, <- HEr.out]; simp) rfl ?_ ?_ ?_
       ·exact ((HJ.out.tree.keep kz (fun g hg e => by cases hg; exact hgtw.2 e)).mono (fun g hg _ => by cases hg; exact hgtw.1))
       ·exact ((HJ.out.files.keep kz (fun g hg e => by have h1 := (HJ.out.files.2 g hg).1; have h2 : g = w.heap.size := e; omega)).mono (fun g hg h => by have h1 : pb < g := h.1; show w.heap.size <= g; omega))
       ·rw [hws', HAll.out, <- HQe.out]
        exact ((HJ.out.parts.keep kz (fun g hg e => by have h1 := HJ.out.parts.2 g hg; have h2 : g = w.heap.size := e; omega)).mono (fun g hg h => by have h1 : M <= g := h; show w.heap.size <= g; omega))
def itmA (d : ByteArray) : Itm := ⟨⟨#[97]⟩, 1, 0, d, ⟨#[]⟩⟩
theorem plain_97 : plainB ⟨#[97]⟩ = true := by decide +kernel
theorem ckE_one (d : ByteArray) (hd : d.size <= 4194304) : ckE [itmA d] = (0, 0) := by
 have h1 : shpE (itmA d) = 0 := by
  unfold shpE
  rw [if_neg (by rw [show (itmA d).p = ⟨#[97]⟩ from rfl, plain_97]; decide), if_neg (by rw [show (itmA d).kind = 1 from rfl]; decide), if_neg (by rw [show (itmA d).mode = 0 from rfl, show (itmA d).kind = 1 from rfl]; decide)]
  unfold bodE
  rw [show (itmA d).kind = 1 from rfl, if_neg (by simp), if_neg (by rw [show (itmA d).dat = d from rfl]; simp; omega), if_neg (by simp)]
 have h2 : upB (itmA d).p = ⟨#[46]⟩ := by
  rw [show (itmA d).p = ⟨#[97]⟩ from rfl]
  decide +kernel
 have h3 : addE (shpE (itmA d)) (upB (itmA d).p) ck0 (itmA d) = 0 := by
  rw [h1, h2]
  unfold addE
  rw [if_neg (by simp), if_neg (by rw [show (itmA d).p = ⟨#[97]⟩ from rfl, show ck0.last = ⟨#[]⟩ from rfl]; decide +kernel), if_neg (by simp), if_neg (by simp [itmA])]
 unfold ckE
 rw [if_neg (by simp), if_neg (by simp)]
 unfold ckGo
 rw [if_neg (by rw [h3]; simp)]
 rfl
theorem dats_one (d : ByteArray) : datsP [itmA d] = [d] := rfl
theorem cuts_a : cuts ⟨#[97, 10, 98]⟩ = [⟨#[97, 10]⟩, ⟨#[98]⟩] := by decide +kernel
theorem best_an : bestP [1, 2, 3] ⟨#[97, 10]⟩ = (1, 0) := by decide +kernel
theorem best_b : bestP [1, 2, 3] ⟨#[98]⟩ = (3, 0) := by decide +kernel
theorem tell_b : tellB 3 ⟨#[98]⟩ = ⟨#[98]⟩ := by decide +kernel
theorem parts_a : partsD [1, 2, 3] 0 (datsP [itmA ⟨#[97, 10, 98]⟩]) = [⟨0, 1, ⟨#[97, 10]⟩⟩, ⟨0, 3, ⟨#[98]⟩⟩] := by
 rw [dats_one]
 unfold partsD partsD
 rw [cuts_a]
 simp only [List.map_cons, List.map_nil, List.append_nil, partP, best_an, best_b, tell_b]
 rfl
theorem first_a : firstE [1, 2, 3] (datsP [itmA ⟨#[97, 10, 98]⟩]) = 0 := by
 rw [dats_one]
 unfold firstE firstE
 rw [cuts_a]
 simp only [fileE, best_an, best_b]
 rfl
theorem SlAt.prt {S : Nat -> Prop} {w : World} {p : Option Addr} {c : Nat} {l : List Prt} (h : SlAt encPrt S w p c l) {i : Nat} {x : Prt} (hi : l[i]? = some x) :
 ∃ g off, p = some ⟨g, off, none⟩ ∧ S g ∧ g < w.heap.size ∧ w.cell? ⟨g, off + i * 3, none⟩ = some (.int .i64 x.f) ∧ w.cell? ⟨g, off + i * 3 + 1, none⟩ = some (.int .i64 x.way) ∧ w.cell? ⟨g, off + i * 3 + 2, none⟩ = some (.string x.t) := by
 obtain ⟨g, off, hp, hS, hg, hc⟩ := h.at hi
 rw [show encPrt.k = 3 from rfl] at hc
 exact ⟨g, off, hp, hS, hg, by have := hc 0 _ rfl; simpa using this, by have := hc 1 _ rfl; rw [<- Nat.add_assoc] at this; exact this, by have := hc 2 _ rfl; rw [<- Nat.add_assoc] at this; exact this⟩
def PlanTo (w : World) (ps : List Prt) (e : Ending) (w' : World) : Prop :=
 ∃ tp tn tc fp fn fc pp pc, e = .returned (.tuple #[.agg #[.slice tp tn tc, .slice fp fn fc, .slice pp ps.length pc], .int .i64 0]) ∧ SlAt encPrt (fun g => w.heap.size <= g) w' pp pc ps ∧ Keeps NoB w w'
theorem make_one (d : ByteArray) (hd : d.size <= 500000) (ws : List Int) (hws : ws.length <= 1000) (hf : firstE (waysP ws) [d] = 0) (w : World) {S1 S2 : Nat -> Prop} {p wp : Option Addr} {cp wc : Nat} (hS : SlAt encItm S1 w p cp [itmA d]) (hW : SlAt encInt S2 w wp wc ws) :
 Calls Tryz.prog 10 #[.slice p 1 cp, .slice wp ws.length wc] w fun e w' => PlanTo w (partsD (waysP ws) 0 [d]) e w' := by
 refine (make_any [itmA d] (fun i hi => by obtain rfl := List.mem_singleton.1 hi; exact ⟨by show (1 : Nat) <= _; decide, hd⟩) ws hws w hS hW).mono ?_
 rintro e w' ⟨hk, hm⟩
 rw [if_neg (by rw [ckE_one d (by omega)]; simp), dats_one, if_neg (by rw [hf]; simp)] at hm
 obtain ⟨tv, fv, pv, rfl, ht, hf', hp⟩ := hm
 obtain ⟨tp, tc, rfl, _⟩ := ht.sl
 obtain ⟨fp, fc, rfl, _⟩ := hf'.sl
 obtain ⟨pp, pc, rfl, hps⟩ := hp.sl
 exact ⟨tp, _, tc, fp, _, fc, pp, pc, rfl, hps, hk⟩
theorem lit_itm (d : ByteArray) (w : World) : SlAt encItm (fun _ => True) (w.alloc (.cells #[.string ⟨#[97]⟩, .int .i64 1, .int .i64 0, .string d, .string ⟨#[]⟩] 42)) (some ⟨w.heap.size, 0, none⟩) 1 [itmA d] := by
 obtain ⟨p, c, he, h⟩ := (own_lit (E := encItm) (e := 42) (w := w) (S := fun _ => True) [itmA d] #[.string ⟨#[97]⟩, .int .i64 1, .int .i64 0, .string d, .string ⟨#[]⟩] rfl 1 rfl trivial (by decide)).sl
 cases he
 exact h
theorem anchor26_any (w : World) : Calls Tryz.prog 7 #[] w fun e w' => e = .returned (.bool true) ∧ Keeps NoB w w' := by
 have hM := make_one ⟨#[97, 10, 98]⟩ (by decide) [] (by decide) (by have := first_a; rw [dats_one] at this; exact this) _ (lit_itm ⟨#[97, 10, 98]⟩ w) (S2 := fun _ => True) (wp := none) (wc := 0) ⟨Nat.zero_le _, by decide, fun _ => rfl, fun h => absurd h (by decide), fun h => absurd h (by decide)⟩
 have hpp := parts_a
 rw [dats_one] at hpp
 rw [show waysP [] = [1, 2, 3] from rfl, hpp] at hM
 have HM := Lib.hid hM
 have ka : Keeps NoB w (w.alloc (.cells #[.string ⟨#[97]⟩, .int .i64 1, .int .i64 0, .string ⟨#[97, 10, 98]⟩, .string ⟨#[]⟩] 42)) := (Keeps.refl _ _).alloc _
 have HK := Lib.hid ka
 clear hM hpp ka
 go_enter Tryz.func7, Tryz.ntmps7
 go_upto_region 2 with (go_at_call 10; go_loud (refine HM.out.mono ?_); rintro e w1 ⟨tp, tn, tc, fp, fn, fc, pp, pc, rfl, hps, hk1⟩)
 obtain ⟨g, o, rfl, hSg, hg, a0, a1, a2⟩ := hps.prt (i := 0) rfl
 obtain ⟨g', o', he, _, _, b0, b1, b2⟩ := hps.prt (i := 1) rfl
 cases he
 have hcap := hps.cap
 have hmax := hps.max
 unfold maxLen at hmax
 have HK1 := Lib.hid (HK.out.trans hk1)
 clear hps hk1
 simp only [Nat.zero_mul, Nat.add_zero, Nat.one_mul, Nat.add_assoc, Nat.reduceAdd] at a0 a1 a2 b0 b1 b2
 go_wp2
 go_ret
 exact ⟨rfl, HK1.out.alloc _⟩
structure Sp where
 left : Bool
 zero : Bool
 width : Int
 prec : Int
 kind : UInt8
def Sp.val (p : Sp) : Value := .agg #[.bool p.left, .bool p.zero, .int .i64 p.width, .int .i64 p.prec, .int .u8 (p.kind.toNat : Int)]
def ReadsTo (s : ByteArray) (p : Sp) (n : Nat) : Prop := ∀ w, Calls Tryz.prog 86 #[.string s] w fun e w' => e = .returned (.tuple #[p.val, .int .i64 n, .bool true]) ∧ Keeps NoB w w'
def DbOk (w : World) : Prop := w.cell? ⟨4, 7, none⟩ = some (.int .u8 3)
theorem DbOk.on {w w' : World} (h : DbOk w) (k : Keeps NoB w w') : DbOk w' := (k.cell (p := ⟨4, 7, none⟩) (lt_of_cell h) (fun h => h)).trans h
def PutsTo (p : Sp) (s : ByteArray) (t : List UInt8) : Prop := ∀ w, DbOk w -> Calls Tryz.prog 87 #[p.val, .string s] w fun e w' => e = .returned (.tuple #[.string ⟨t.toArray⟩, .int .i64 0]) ∧ Keeps NoB w w'
inductive Onc (f : ByteArray) (args : List ByteArray) : Nat -> Nat -> List UInt8 -> Nat -> Prop
 | done {u : Nat} : Onc f args f.size u [] u
 | esc {i u n U : Nat} {c : UInt8} {O : List UInt8} (hi : i < f.size) (h92 : f[i] = 92) (he : escR (f.data.toList.drop (i + 1)) = (c, n)) (hn : 0 < n) (h : Onc f args (i + n + 1) u O U) : Onc f args i u (c :: O) U
 | lit {i u U : Nat} {c : UInt8} {O : List UInt8} (hi : i < f.size) (hc : f[i] = c) (h37 : c ≠ 37) (hno : c = 92 -> (escR (f.data.toList.drop (i + 1))).2 = 0) (h : Onc f args (i + 1) u O U) : Onc f args i u (c :: O) U
 | place {i u n U : Nat} {p : Sp} {t O : List UInt8} (hi : i < f.size) (h37 : f[i] = 37) (hr : ReadsTo (f.extract (i + 1) f.size) p n) (hin : i + n + 1 <= f.size) (hk : p.kind ≠ 37) (hp : PutsTo p (args.getD u ⟨#[]⟩) t) (h : Onc f args (i + n + 1) (u + 1) O U) : Onc f args i u (t ++ O) U
theorem Onc.cases' {f : ByteArray} {args : List ByteArray} {i u U : Nat} {O : List UInt8} (h : Onc f args i u O U) :
 (i = f.size ∧ O = [] ∧ U = u) ∨
 (∃ (n : Nat) (c : UInt8) (O' : List UInt8) (hi : i < f.size), O = c :: O' ∧ f[i] = 92 ∧ escR (f.data.toList.drop (i + 1)) = (c, n) ∧ 0 < n ∧ Onc f args (i + n + 1) u O' U) ∨
 (∃ (c : UInt8) (O' : List UInt8) (hi : i < f.size), O = c :: O' ∧ f[i] = c ∧ c ≠ 37 ∧ (c = 92 -> (escR (f.data.toList.drop (i + 1))).2 = 0) ∧ Onc f args (i + 1) u O' U) ∨
 (∃ (n : Nat) (p : Sp) (t O' : List UInt8) (hi : i < f.size), O = t ++ O' ∧ f[i] = 37 ∧ ReadsTo (f.extract (i + 1) f.size) p n ∧ i + n + 1 <= f.size ∧ p.kind ≠ 37 ∧ PutsTo p (args.getD u ⟨#[]⟩) t ∧ Onc f args (i + n + 1) (u + 1) O' U) := by
 cases h with
 | done => exact .inl ⟨rfl, rfl, rfl⟩
 | esc hi h92 he hn h => exact .inr (.inl ⟨_, _, _, hi, rfl, h92, he, hn, h⟩)
 | lit hi hc h37 hno h => exact .inr (.inr (.inl ⟨_, _, hi, rfl, hc, h37, hno, h⟩))
 | place hi h37 hr hin hk hp h => exact .inr (.inr (.inr ⟨_, _, _, _, hi, rfl, h37, hr, hin, hk, hp, h⟩))
theorem at37 (c : UInt8) : (c = 37 ∧ ((c.toNat : Int) == 37) = true ∧ ((c.toNat : Int) != 37) = false) ∨ (c ≠ 37 ∧ ((c.toNat : Int) == 37) = false ∧ ((c.toNat : Int) != 37) = true) := by
 by_cases h : c = 37
 ·subst h; exact .inl ⟨rfl, rfl, rfl⟩
 ·have : c.toNat ≠ 37 := fun e => h (by apply UInt8.toNat_inj.1; rw [e]; rfl)
  refine .inr ⟨h, ?_, ?_⟩
  ·simp; omega
  ·simp; omega
structure OnJ (f : ByteArray) (args : List ByteArray) (O : List UInt8) (U : Nat) (w w' : World) (i u : Nat) : Prop where
 ex : ∃ R out : List UInt8, Onc f args i u R U ∧ out ++ R = O ∧ BA (fun g => w.heap.size < g) w' w.heap.size out
 keeps : Keeps NoB w w'
 ile : i <= f.size
 ule : u <= i
def OnA (f : ByteArray) (args : List ByteArray) (O : List UInt8) (U : Nat) (w : World) (pa : Option Addr) (ca : Nat) (a' : Act) (w' : World) : Prop :=
 ∃ (fz : Nat -> Value) (i u : Nat), a' = { tmps := List.toArray (.string f :: .slice pa args.length ca :: fz 2 :: fz 3 :: fz 4 :: fz 5 :: fz 6 :: .pointer (some ⟨w.heap.size, 0, none⟩) :: .int .i64 (u : Int) :: .int .i64 (i : Int) :: fz 10 :: fz 11 :: fz 12 :: fz 13 :: fz 14 :: fz 15 :: fz 16 :: fz 17 :: fz 18 :: fz 19 :: fz 20 :: fz 21 :: fz 22 :: fz 23 :: fz 24 :: fz 25 :: fz 26 :: fz 27 :: fz 28 :: fz 29 :: fz 30 :: fz 31 :: fz 32 :: fz 33 :: fz 34 :: fz 35 :: fz 36 :: fz 37 :: fz 38 :: fz 39 :: fz 40 :: fz 41 :: fz 42 :: fz 43 :: fz 44 :: fz 45 :: fz 46 :: fz 47 :: fz 48 :: fz 49 :: fz 50 :: fz 51 :: fz 52 :: fz 53 :: fz 54 :: fz 55 :: fz 56 :: fz 57 :: fz 58 :: fz 59 :: fz 60 :: fz 61 :: fz 62 :: fz 63 :: fz 64 :: fz 65 :: fz 66 :: fz 67 :: fz 68 :: fz 69 :: fz 70 :: fz 71 :: fz 72 :: fz 73 :: fz 74 :: fz 75 :: fz 76 :: fz 77 :: fz 78 :: fz 79 :: fz 80 :: fz 81 :: fz 82 :: fz 83 :: fz 84 :: fz 85 :: fz 86 :: fz 87 :: fz 88 :: fz 89 :: fz 90 :: fz 91 :: fz 92 :: fz 93 :: []), defers := [] } ∧ OnJ f args O U w w' i u
theorem OnA.mk {f : ByteArray} {args : List ByteArray} {O : List UInt8} {U : Nat} {w w' : World} {pa : Option Addr} {ca : Nat} {a' : Act} {i u : Nat}
 (h : (fun fz : Nat -> Value => a' = { tmps := List.toArray (.string f :: .slice pa args.length ca :: fz 2 :: fz 3 :: fz 4 :: fz 5 :: fz 6 :: .pointer (some ⟨w.heap.size, 0, none⟩) :: .int .i64 (u : Int) :: .int .i64 (i : Int) :: fz 10 :: fz 11 :: fz 12 :: fz 13 :: fz 14 :: fz 15 :: fz 16 :: fz 17 :: fz 18 :: fz 19 :: fz 20 :: fz 21 :: fz 22 :: fz 23 :: fz 24 :: fz 25 :: fz 26 :: fz 27 :: fz 28 :: fz 29 :: fz 30 :: fz 31 :: fz 32 :: fz 33 :: fz 34 :: fz 35 :: fz 36 :: fz 37 :: fz 38 :: fz 39 :: fz 40 :: fz 41 :: fz 42 :: fz 43 :: fz 44 :: fz 45 :: fz 46 :: fz 47 :: fz 48 :: fz 49 :: fz 50 :: fz 51 :: fz 52 :: fz 53 :: fz 54 :: fz 55 :: fz 56 :: fz 57 :: fz 58 :: fz 59 :: fz 60 :: fz 61 :: fz 62 :: fz 63 :: fz 64 :: fz 65 :: fz 66 :: fz 67 :: fz 68 :: fz 69 :: fz 70 :: fz 71 :: fz 72 :: fz 73 :: fz 74 :: fz 75 :: fz 76 :: fz 77 :: fz 78 :: fz 79 :: fz 80 :: fz 81 :: fz 82 :: fz 83 :: fz 84 :: fz 85 :: fz 86 :: fz 87 :: fz 88 :: fz 89 :: fz 90 :: fz 91 :: fz 92 :: fz 93 :: []), defers := [] }) (fun i => a'.tmps.toList.getD i undef))
 (J : OnJ f args O U w w' i u) : OnA f args O U w pa ca a' w' := ⟨fun i => a'.tmps.toList.getD i undef, i, u, h, J⟩
theorem once_fok {f : ByteArray} {args : List ByteArray} {O : List UInt8} {U : Nat} {w : World} {S1 : Nat -> Prop} {pa : Option Addr} {ca : Nat} (ha : SlAt encStr S1 w pa ca args) (h : Onc f args 0 0 O U) (hf : f.size <= 1000000000) (hO : O.length <= 4000000000) (hdb : DbOk w) :
 Calls Tryz.prog 55 #[.string f, .slice pa args.length ca] w fun e w' => e = .returned (.tuple #[.string ⟨O.toArray⟩, .int .i64 (U : Int), .int .i64 0]) ∧ Keeps NoB w w' := by
 have hcap := ha.cap
 have hmax := ha.max
 unfold maxLen at hmax
 have HA := Lib.hid ha
 have HOn := Lib.hid h
 have HDB := Lib.hid hdb
 clear ha h hdb
 go_enter Tryz.func55, Tryz.ntmps55
 go_wp2
 refine wp_scope_goto 0 (OnA f args O U w pa ca) (fun a' _ => f.size - (intOf (a'.tmps.getD 9 undef)).toNat) rfl ?_ ?_
 ·intro HJ
  have HJ' := Lib.hid HJ
  clear HJ
  go_wp2
  go_step3
  go_step
  go_step
  refine HJ'.out _ _ ?_
  exact OnA.mk (i := 0) (u := 0) rfl ⟨⟨O, [], HOn.out, rfl, BA.new w (Nat.lt_irrefl _)⟩, (Keeps.refl _ _).alloc _, Nat.zero_le _, Nat.zero_le _⟩
 ·rintro a' w1 ⟨fz, i, u, rfl, hJ⟩
  obtain ⟨R, out, hon, hout, hba⟩ := hJ.ex
  have HB := Lib.hid hba
  have HK := Lib.hid hJ.keeps
  have hile := hJ.ile
  have hule := hJ.ule
  have hsz : w.heap.size < w1.heap.size := hba.lt
  have HOut := Lib.hid hout
  have hol : out.length + R.length = O.length := by rw [<- hout, List.length_append]
  have hSS : ∀ g, w1.heap.size <= g -> w.heap.size < g := fun g hg => by omega
  have HSS := Lib.hid hSS
  clear hSS hba hJ HOn
  rcases hon.cases' with ⟨h1, h2, h3⟩ | ⟨n, c, O', hi, h1, h92, he, hn, hr⟩ | ⟨c, O', hi, h1, hc, h37, hno, hr⟩ | ⟨n, p, t, O', hi, h1, h37, hrd, hin, hk, hpt, hr⟩
  ·subst h1 h2 h3
   rw [List.append_nil] at hout
   subst hout
   have HSt := Lib.hid (sbString_any (B := w.heap.size) HB.out (fun g hg => by omega) (Nat.le_refl _) (by omega))
   clear hon
   go_wp2_with (go_at_call 54; go_loud (refine HSt.out.mono ?_); rintro e w4 ⟨rfl, hk4⟩)
   simp only [Exit.jump]
   go_ret3
   exact ⟨rfl, HK.out.step hk4 (fun g hg => .inr hg)⟩
  ·have hne : ((i : Int) == (f.size : Int)) = false := by simp; omega
   have hb92 : ((f[i].toNat : Int) == 92) = true := by rw [h92]; rfl
   obtain ⟨x, hx⟩ : ∃ x, f.extract (i + 1) f.size = x := ⟨_, rfl⟩
   have hxl := sub_list f (i + 1)
   rw [hx] at hxl
   have hxs : x.size <= f.size := by rw [<- hx, ByteArray.size_extract]; omega
   have HE := Lib.hid (fun wx : World => escape_any x wx (by omega))
   rw [hxl, he] at HE
   simp only at HE
   have hle := escR_le (f.data.toList.drop (i + 1))
   rw [he, List.length_drop, len_data] at hle
   simp only at hle
   have h0' : (0 : Int) < (n : Int) := by omega
   rw [h1, List.length_cons] at hol
   have HW := Lib.hid (sbWriteByte_any HB.out HSS.out c (by omega))
   have HR := Lib.hid hr
   have HOu2 : Hid ((out ++ [c]) ++ O' = O) := Lib.hid (by rw [<- HOut.out, h1]; simp)
   clear hon hr he hxl h92 h1 hout
   go_wp2_with (first | (go_at_call 84; go_loud (refine (HE.out _).mono ?_); rintro e w' ⟨rfl, rfl⟩) | (go_at_call 85; go_loud (refine HW.out.mono ?_); rintro e w4 ⟨rfl, hB4, hk4⟩))
   go_step3
   refine ⟨rfl, OnA.mk (i := i + n + 1) (u := u) rfl ⟨⟨O', out ++ [c], HR.out, HOu2.out, hB4⟩, HK.out.step hk4 (fun g hg => .inr (by omega)), by omega, by omega⟩, ?_⟩
   simp [intOf]; omega
  ·have hne : ((i : Int) == (f.size : Int)) = false := by simp; omega
   have hb37 : ((c.toNat : Int) != 37) = true := by
    rcases at37 c with ⟨e, _⟩ | ⟨_, _, h⟩
    ·exact absurd e h37
    ·exact h
   rw [h1, List.length_cons] at hol
   have HW := Lib.hid (sbWriteByte_any HB.out HSS.out c (by omega))
   have HR := Lib.hid hr
   have HOu2 : Hid ((out ++ [c]) ++ O' = O) := Lib.hid (by rw [<- HOut.out, h1]; simp)
   rcases at92 c with ⟨e92, hb⟩ | ⟨e92, hb⟩
   ·obtain ⟨x, hx⟩ : ∃ x, f.extract (i + 1) f.size = x := ⟨_, rfl⟩
    have hxl := sub_list f (i + 1)
    rw [hx] at hxl
    have hxs : x.size <= f.size := by rw [<- hx, ByteArray.size_extract]; omega
    have HE := Lib.hid (fun wx : World => escape_any x wx (by omega))
    rw [hxl, hno e92] at HE
    generalize (escR (List.drop (i + 1) f.data.toList)).1 = ec at *
    clear hon hr hno hxl h1 hout hb h37 hb37
    subst e92
    rw [show (((92 : UInt8).toNat : Nat) : Int) = 92 from rfl] at HW
    go_wp2_with (first | (go_at_call 84; go_loud (refine (HE.out _).mono ?_); rintro e w' ⟨rfl, rfl⟩) | (go_at_call 85; go_loud (refine HW.out.mono ?_); rintro e w4 ⟨rfl, hB4, hk4⟩))
    go_step3
    refine ⟨rfl, OnA.mk (i := i + 1) (u := u) rfl ⟨⟨O', out ++ [92], HR.out, HOu2.out, hB4⟩, HK.out.step hk4 (fun g hg => .inr (by omega)), by omega, by omega⟩, ?_⟩
    simp [intOf]; omega
   ·clear hon hr hno h1 hout e92 h37
    go_wp2_with (go_at_call 85; go_loud (refine HW.out.mono ?_); rintro e w4 ⟨rfl, hB4, hk4⟩)
    go_step3
    refine ⟨rfl, OnA.mk (i := i + 1) (u := u) rfl ⟨⟨O', out ++ [c], HR.out, HOu2.out, hB4⟩, HK.out.step hk4 (fun g hg => .inr (by omega)), by omega, by omega⟩, ?_⟩
    simp [intOf]; omega
  ·have hne : ((i : Int) == (f.size : Int)) = false := by simp; omega
   obtain ⟨x, hx⟩ : ∃ x, f.extract (i + 1) f.size = x := ⟨_, rfl⟩
   rw [hx] at hrd
   rw [h1, List.length_append] at hol
   unfold ReadsTo at hrd
   unfold PutsTo at hpt
   have HRd := Lib.hid hrd
   have HPt := Lib.hid hpt
   have HR := Lib.hid hr
   have HOu2 : Hid ((out ++ t) ++ O' = O) := Lib.hid (by rw [<- HOut.out, h1]; simp)
   have hbk : ((p.kind.toNat : Int) == 37) = false := by
    rcases at37 p.kind with ⟨e, _⟩ | ⟨_, h, _⟩
    ·exact absurd e hk
    ·exact h
   unfold Sp.val at HRd HPt
   clear hon hr hrd hpt h1 hout hk
   by_cases hu : u < args.length
   ·obtain ⟨arg, harg⟩ : ∃ arg, args[u]? = some arg := ⟨_, List.getElem?_eq_getElem hu⟩
    rw [List.getD_eq_getElem?_getD, harg] at HPt
    simp only [Option.getD_some] at HPt
    go_upto_region 15 with (go_at_call 86; go_loud (refine (HRd.out _).mono ?_); rintro e w2 ⟨rfl, hk2⟩)
    have ka : Keeps NoB w1 (w2.alloc (.cells #[.bool p.left, .bool p.zero, .int .i64 p.width, .int .i64 p.prec, .int .u8 (p.kind.toNat : Int)] 136)) := hk2.alloc _
    obtain ⟨ga, oa, epa, _, _, t0⟩ := (HA.out.keepN (HK.out.trans ka)).str harg
    subst epa
    have HB3 := Lib.hid (HB.out.on ka)
    have HK3 := Lib.hid (HK.out.trans ka)
    have hs3 := ka.size
    clear hk2 ka harg HB HK HRd
    go_upto_region 25 with (go_at_call 87; go_loud (refine (HPt.out _ (HDB.out.on HK3.out)).mono ?_); rintro e w5 ⟨rfl, hk5⟩)
    have HW := Lib.hid (sbWriteString_any (HB3.out.on hk5) (fun g hg => by have := hk5.size; omega) ⟨t.toArray⟩ (by show out.length + t.toArray.size <= _; simp; omega))
    have HK5 := Lib.hid (HK3.out.trans hk5)
    clear hk5 HB3 HK3 HPt t0
    go_wp2_with (go_at_call 53; go_loud (refine HW.out.mono ?_); rintro e w4 ⟨rfl, hB4, hk4⟩)
    go_step3
    refine ⟨rfl, OnA.mk (i := i + n + 1) (u := u + 1) rfl ⟨⟨O', out ++ t, HR.out, HOu2.out, hB4⟩, HK5.out.step hk4 (fun g hg => .inr (by omega)), by omega, by omega⟩, ?_⟩
    simp [intOf]; omega
   ·have hd : args.getD u ⟨#[]⟩ = ⟨#[]⟩ := by rw [List.getD_eq_getElem?_getD, List.getElem?_eq_none (by omega)]; rfl
    rw [hd] at HPt
    clear hd
    go_upto_region 15 with (go_at_call 86; go_loud (refine (HRd.out _).mono ?_); rintro e w2 ⟨rfl, hk2⟩)
    have ka : Keeps NoB w1 (w2.alloc (.cells #[.bool p.left, .bool p.zero, .int .i64 p.width, .int .i64 p.prec, .int .u8 (p.kind.toNat : Int)] 136)) := hk2.alloc _
    have HB3 := Lib.hid (HB.out.on ka)
    have HK3 := Lib.hid (HK.out.trans ka)
    have hs3 := ka.size
    clear hk2 ka HB HK HRd
    go_upto_region 25 with (go_at_call 87; go_loud (refine (HPt.out _ (HDB.out.on HK3.out)).mono ?_); rintro e w5 ⟨rfl, hk5⟩)
    have HW := Lib.hid (sbWriteString_any (HB3.out.on hk5) (fun g hg => by have := hk5.size; omega) ⟨t.toArray⟩ (by show out.length + t.toArray.size <= _; simp; omega))
    have HK5 := Lib.hid (HK3.out.trans hk5)
    clear hk5 HB3 HK3 HPt
    go_wp2_with (go_at_call 53; go_loud (refine HW.out.mono ?_); rintro e w4 ⟨rfl, hB4, hk4⟩)
    go_step3
    refine ⟨rfl, OnA.mk (i := i + n + 1) (u := u + 1) rfl ⟨⟨O', out ++ t, HR.out, HOu2.out, hB4⟩, HK5.out.step hk4 (fun g hg => .inr (by omega)), by omega, by omega⟩, ?_⟩
    simp [intOf]; omega
theorem emp_app (O : List UInt8) : (⟨#[]⟩ : ByteArray) ++ ⟨O.toArray⟩ = ⟨O.toArray⟩ := by
 apply ba_eq
 simp
theorem format_fok {f : ByteArray} {args : List ByteArray} {O : List UInt8} {U : Nat} {w : World} {S1 : Nat -> Prop} {pa : Option Addr} {ca : Nat} (ha : SlAt encStr S1 w pa ca args) (h : Onc f args 0 0 O U) (hf : f.size <= 1000000000) (hO : O.length <= 4194304)
 (hU : U = 0 ∨ args.length <= U) (hU2 : U <= 1000000000) (hdb : DbOk w) :
 Calls Tryz.prog 33 #[.string f, .slice pa args.length ca] w fun e w' => e = .returned (.tuple #[.string ⟨O.toArray⟩, .int .i64 0]) ∧ Keeps NoB w w' := by
 have HOn := Lib.hid (once_fok ha h hf (by omega) hdb)
 have hs : (⟨O.toArray⟩ : ByteArray).size = O.length := by show O.toArray.size = _; simp
 have he := emp_app O
 obtain ⟨x, hx⟩ : ∃ x : ByteArray, ⟨O.toArray⟩ = x := ⟨_, rfl⟩
 rw [hx] at HOn hs he ⊢
 have hcat : (9223372036854775807 < (⟨#[]⟩ : ByteArray).size + x.size) = False := by rw [show (⟨#[]⟩ : ByteArray).size = 0 from rfl]; simp; omega
 have hsz : ¬ (4194304 : Int) < (x.size : Int) := by omega
 clear hx ha h hdb
 go_enter Tryz.func33, Tryz.ntmps33
 go_wp2_with fail
 go_loopw [1, 6] (fun a1 a6 wr => a1 = .slice pa args.length ca ∧ a6 = .string ⟨#[]⟩ ∧ w = wr) (fun _ _ _ => 0)
 case atStart => exact ⟨rfl, rfl, rfl⟩
 case round =>
  obtain ⟨rfl, rfl, rfl⟩ := hrel
  have hu : ((U : Int) == 0) = true ∨ (((U : Int) == 0) = false ∧ (args.length : Int) <= (U : Int)) := by
   by_cases h0 : U = 0
   ·exact .inl (by subst h0; rfl)
   ·refine .inr ⟨by simp; omega, by rcases hU with h | h <;> omega⟩
  clear hU
  rcases hu with hu | ⟨hu, hu2⟩
  all_goals
   go_wp2_with (go_at_call 55; go_loud (refine HOn.out.mono ?_); rintro e w4 ⟨rfl, hk4⟩)
   go_ret2
   exact ⟨rfl, hk4⟩
set_option maxHeartbeats 4000000
theorem oct_three : ∀ n : Fin 256, lettC (48 + UInt8.ofNat n.val / 64) = none ∧ isOct (48 + UInt8.ofNat n.val / 64) = true ∧ isOct (48 + UInt8.ofNat n.val / 8 % 8) = true ∧ isOct (48 + UInt8.ofNat n.val % 8) = true ∧
 UInt8.ofNat (octV [48 + UInt8.ofNat n.val / 64, 48 + UInt8.ofNat n.val / 8 % 8, 48 + UInt8.ofNat n.val % 8]) = UInt8.ofNat n.val := by decide +kernel
theorem escR_oct (c : UInt8) (tl : List UInt8) : escR ((48 + c / 64) :: (48 + c / 8 % 8) :: (48 + c % 8) :: tl) = (c, 3) := by
 have h := oct_three ⟨c.toNat, c.toNat_lt⟩
 simp only [UInt8.ofNat_toNat] at h
 obtain ⟨h0, h1, h2, h3, h4⟩ := h
 have hn : octN ((48 + c / 64) :: (48 + c / 8 % 8) :: (48 + c % 8) :: tl) = 3 := by
  unfold octN
  simp only [List.take_succ_cons, List.take_zero, List.takeWhile_cons, h1, h2, h3, if_true, List.takeWhile_nil, List.length_cons, List.length_nil]
 simp only [escR, h0, hn, List.take_succ_cons, List.take_zero, h4]
theorem pln_no {c : UInt8} (h : plnC c = true) : c ≠ 37 ∧ c ≠ 92 := by
 constructor <;> (intro e; subst e; revert h; decide)
theorem at_drop {f : ByteArray} {i : Nat} {c : UInt8} {t : List UInt8} (h : f.data.toList.drop i = c :: t) : ∃ hi : i < f.size, f[i] = c ∧ f.data.toList.drop (i + 1) = t := by
 have hl : f.data.toList.length = f.size := len_data f
 have h1 : f.data.toList[i]? = some c := by
  have : (f.data.toList.drop i)[0]? = some c := by rw [h]; rfl
  rw [List.getElem?_drop] at this
  exact this
 obtain ⟨h2, h3⟩ := List.getElem?_eq_some_iff.1 h1
 refine ⟨by omega, h3, ?_⟩
 rw [<- List.drop_drop, h]
 rfl
theorem onc_esc {f : ByteArray} {args : List ByteArray} {u U : Nat} {O rest : List UInt8} (hr : Onc f args (f.size - rest.length) u O U) :
 ∀ (l : List UInt8) (i : Nat), i <= f.size -> f.data.toList.drop i = escL l ++ rest -> Onc f args i u (l ++ O) U
 | [], i, hi, h => by
   have hl : f.data.toList.length = f.size := len_data f
   have := congrArg List.length h
   rw [List.length_drop, hl] at this
   simp only [escL, List.flatMap_nil, List.nil_append] at this
   rw [show f.size - rest.length = i by omega] at hr
   exact hr
 | c :: l, i, hi, h => by
   rw [show escL (c :: l) = escC c ++ escL l by unfold escL; rw [List.flatMap_cons]] at h
   unfold escC at h
   by_cases hp : plnC c = true
   ·rw [if_pos hp] at h
    obtain ⟨h1, h2, h3⟩ := at_drop h
    refine Onc.lit h1 h2 (pln_no hp).1 (fun e => absurd e (pln_no hp).2) (onc_esc hr l (i + 1) (by omega) h3)
   ·rw [if_neg hp] at h
    obtain ⟨h1, h2, h3⟩ := at_drop h
    obtain ⟨h4, _, h5⟩ := at_drop h3
    obtain ⟨h6, _, h7⟩ := at_drop h5
    obtain ⟨h8, _, h9⟩ := at_drop h7
    refine Onc.esc (n := 3) h1 h2 (by rw [h3]; exact escR_oct c _) (by decide) (onc_esc hr l (i + 3 + 1) (by omega) h9)
theorem onc_escL (s : ByteArray) (args : List ByteArray) : Onc ⟨(escL s.data.toList).toArray⟩ args 0 0 s.data.toList 0 := by
 have h := onc_esc (f := ⟨(escL s.data.toList).toArray⟩) (args := args) (u := 0) (U := 0) (O := []) (rest := []) (by exact Onc.done) s.data.toList 0 (Nat.zero_le _) (by simp)
 rw [List.append_nil] at h
 exact h
set_option maxHeartbeats 8000000
def szI (i : Itm) : Nat := i.p.size + i.dat.size + i.same.size
def sumI (l : List Itm) : Nat := (l.map szI).sum
theorem sumI_snoc {l : List Itm} {k : Nat} {x : Itm} (h : l[k]? = some x) : sumI (l.take (k + 1)) = sumI (l.take k) + szI x := by
 unfold sumI
 rw [List.take_add_one, h, List.map_append, List.sum_append]
 simp
theorem sumI_take_le (l : List Itm) : ∀ k, sumI (l.take k) <= sumI l := fun k => by
 have h := List.take_append_drop k l
 unfold sumI
 calc ((l.take k).map szI).sum <= ((l.take k).map szI).sum + ((l.drop k).map szI).sum := Nat.le_add_right _ _
  _ = _ := by rw [<- List.sum_append, <- List.map_append, h]
theorem sumI_mem {l : List Itm} {x : Itm} (h : x ∈ l) : szI x <= sumI l := by
 unfold sumI
 induction l with
 | nil => cases h
 | cons a l ih =>
   rw [List.map_cons, List.sum_cons]
   rcases List.mem_cons.1 h with rfl | h
   ·exact Nat.le_add_right _ _
   ·exact Nat.le_trans (ih h) (Nat.le_add_left _ _)
def shortB (l : List Itm) (n m : Nat) : Bool := decide (sumI l <= m) && decide (l.length <= n)
theorem short_any (l : List Itm) (n m : Nat) (hm : m <= 1000000) (hl : ∀ i ∈ l, i.p.size <= 140737488351232 ∧ i.dat.size <= 140737488351232 ∧ i.same.size <= 140737488351232) (w : World) {S : Nat -> Prop} {p : Option Addr} {cp : Nat} (hS : SlAt encItm S w p cp l) :
 Calls Tryz.prog 23 #[.slice p l.length cp, .int .i64 (n : Int), .int .i64 (m : Int)] w fun e w' => e = .returned (.bool (shortB l n m)) ∧ Keeps NoB w w' := by
 have hcap := hS.cap
 have hmax := hS.max
 unfold maxLen at hmax
 have HS := Lib.hid hS
 have HL := Lib.hid hl
 have HB : Hid (shortB l n m = (decide (sumI l <= m) && decide (l.length <= n))) := Lib.hid rfl
 generalize shortB l n m = B at *
 have hm' : (m : Int) <= 1000000 := by omega
 clear hl hS
 go_enter Tryz.func23, Tryz.ntmps23
 go_upto_region 3 with fail
 go_loopw [7, 12] (fun s i wr => ∃ k t : Nat, k <= l.length ∧ i = .int .i64 k ∧ s = .int .i64 t ∧ (t : Int) <= (m : Int) ∧ Keeps NoB w wr ∧ Hid (t = sumI (l.take k))) (fun _ i _ => l.length + 1 - (intOf i).toNat)
 case atStart => exact ⟨0, 0, Nat.zero_le _, rfl, rfl, by omega, Keeps.refl _ _, Lib.hid rfl⟩
 case round =>
  rename World => wr
  obtain ⟨k, t, hk, rfl, rfl, htm, hkr, hT⟩ := hrel
  have HKr := Lib.hid hkr
  by_cases hlt : k < l.length
  ·obtain ⟨x, hx⟩ : ∃ x, l[k]? = some x := ⟨_, List.getElem?_eq_getElem hlt⟩
   obtain ⟨g, o, rfl, _, hgl, c0, c1, c2, c3, c4⟩ := HS.out.itm hx
   have hkc : ∀ (j : Nat) v, w.cell? ⟨g, j, none⟩ = some v -> wr.cell? ⟨g, j, none⟩ = some v := fun j v h => (hkr.cell (p := ⟨g, j, none⟩) hgl (fun h => h)).trans h
   have d0 := hkc _ _ c0
   have d1 := hkc _ _ c1
   have d2 := hkc _ _ c2
   have d3 := hkc _ _ c3
   have d4 := hkc _ _ c4
   have dl := lt_of_cell d0
   obtain ⟨z0, z1, z2⟩ := HL.out x (List.mem_of_getElem? hx)
   have HN : Hid (t + szI x = sumI (l.take (k + 1))) := Lib.hid (by rw [sumI_snoc hx, <- hT.out])
   have hle := sumI_take_le l (k + 1)
   obtain ⟨xp, xk, xm, xd, xs⟩ := x
   simp only at d0 d1 d2 d3 d4 z0 z1 z2
   have HZ : Hid (szI ⟨xp, xk, xm, xd, xs⟩ = xp.size + xd.size + xs.size) := Lib.hid rfl
   have HLe := Lib.hid hle
   have y0 : (xp.size : Int) <= 140737488351232 := by omega
   have y1 : (xd.size : Int) <= 140737488351232 := by omega
   have y2 : (xs.size : Int) <= 140737488351232 := by omega
   have ka := hkr.alloc (.cells #[.string xp, .int .i64 xk, .int .i64 xm, .string xd, .string xs] 42)
   have HKa := Lib.hid ka
   clear hkc c0 c1 c2 c3 c4 hx hle ka hT hkr z0 z1 z2
   by_cases hbig : m < t + (xp.size + xd.size + xs.size)
   ·have hb' : (m : Int) < (t : Int) + ((xp.size : Int) + (xd.size : Int) + (xs.size : Int)) := by omega
    have HBf : Hid (B = false) := Lib.hid (by
     rw [HB.out, Bool.and_eq_false_iff]
     refine .inl (decide_eq_false ?_)
     have h1 := HN.out; have h2 := HZ.out; have h3 := HLe.out
     omega)
    clear hbig
    go_wp2
    go_ret
    rw [HBf.out]
    exact ⟨rfl, HKa.out⟩
   ·have hb' : ¬ (m : Int) < (t : Int) + ((xp.size : Int) + (xd.size : Int) + (xs.size : Int)) := by omega
    clear hbig
    go_wp2
    go_roundw
    case rel => exact ⟨k + 1, t + (xp.size + xd.size + xs.size), by omega, by go_num, by go_num, by omega, HKa.out, Lib.hid (by rw [<- HN.out, HZ.out])⟩
    case measure => (simp [intOf]) <;> omega
  ·obtain rfl : k = l.length := by omega
   have hT2 := hT.out
   rw [List.take_length] at hT2
   have HE : Hid (B = decide ((l.length : Int) <= (n : Int))) := Lib.hid (by
    rw [HB.out, decide_eq_true (show sumI l <= m by omega), Bool.true_and]
    exact decide_eq_decide.2 (by omega))
   clear hT hT2
   go_wp2
   go_ret
   refine ⟨ret_bool ?_, HKr.out⟩
   rw [HE.out]
   simp
theorem tItmR : ElemT Tryz.prog encItm 27 52 ⟨⟨#[]⟩, 0, 0, ⟨#[]⟩, ⟨#[]⟩⟩ 64 :=
 .of (.agg #[.string ⟨#[]⟩, .int .i64 0, .int .i64 0, .string ⟨#[]⟩, .string ⟨#[]⟩]) Tryz.underlying27 (by kernel_rfl) rfl
theorem items_any (l : List Itm) (hl : l.length <= 1000) (w : World) {S : Nat -> Prop} {p : Option Addr} {cp : Nat} (hS : SlAt encItm S w p cp l) :
 Calls Tryz.prog 9 #[.slice p l.length cp] w fun e w' => ∃ v, e = .returned v ∧ Own encItm 52 (fun g => w.heap.size <= g) w' v l ∧ Keeps NoB w w' := by
 have hcap := hS.cap
 have hmax := hS.max
 unfold maxLen at hmax
 have HS := Lib.hid hS
 clear hS
 go_enter Tryz.func9, Tryz.ntmps9
 go_upto_region 3 with fail
 go_loopw [3, 8] (fun v i wr => ∃ k : Nat, k <= l.length ∧ i = .int .i64 k ∧ Own encItm 52 (fun g => w.heap.size <= g) wr v (l.take k) ∧ Keeps NoB w wr) (fun _ i _ => l.length + 1 - (intOf i).toNat)
 case atStart => exact ⟨0, Nat.zero_le _, rfl, Own.nil _ _ _ _, Keeps.refl _ _⟩
 case round =>
  rename World => wr
  obtain ⟨k, hk, rfl, ho, hkr⟩ := hrel
  have HO := Lib.hid ho
  have HKr := Lib.hid hkr
  by_cases hlt : k < l.length
  ·obtain ⟨x, hx⟩ : ∃ x, l[k]? = some x := ⟨_, List.getElem?_eq_getElem hlt⟩
   obtain ⟨g, o, rfl, _, hgl, c0, c1, c2, c3, c4⟩ := HS.out.itm hx
   have hkc : ∀ (j : Nat) v, w.cell? ⟨g, j, none⟩ = some v -> wr.cell? ⟨g, j, none⟩ = some v := fun j v h => (hkr.cell (p := ⟨g, j, none⟩) hgl (fun h => h)).trans h
   have d0 := hkc _ _ c0
   have d1 := hkc _ _ c1
   have d2 := hkc _ _ c2
   have d3 := hkc _ _ c3
   have d4 := hkc _ _ c4
   have dl := lt_of_cell d0
   have HT : Hid (l.take k ++ [x] = l.take (k + 1)) := Lib.hid (by rw [List.take_add_one, hx]; rfl)
   have HLn : Hid ((l.take k).length = k) := Lib.hid (by rw [List.length_take]; omega)
   obtain ⟨xp, xk, xm, xd, xs⟩ := x
   simp only at d0 d1 d2 d3 d4
   have hlit := own_lit (E := encItm) (e := 52) (w := wr.alloc (.cells #[.string xp, .int .i64 xk, .int .i64 xm, .string xd, .string xs] 42)) (S := fun _ => True) [⟨xp, xk, xm, xd, xs⟩] #[.string xp, .int .i64 xk, .int .i64 xm, .string xd, .string xs] rfl 1 rfl trivial (by decide)
   rw [show (wr.alloc (.cells #[.string xp, .int .i64 xk, .int .i64 xm, .string xd, .string xs] 42)).heap.size = wr.heap.size + 1 by simp] at hlit
   have HLit := Lib.hid hlit
   have ka : Keeps NoB wr ((wr.alloc (.cells #[.string xp, .int .i64 xk, .int .i64 xm, .string xd, .string xs] 42)).alloc (.cells #[.string xp, .int .i64 xk, .int .i64 xm, .string xd, .string xs] 52)) := ((Keeps.refl _ _).alloc _).alloc _
   have HKa := Lib.hid (hkr.trans ka)
   have HOa := Lib.hid (ho.keep ka (fun _ _ h => h))
   have hsz : w.heap.size <= wr.heap.size := hkr.size
   clear hkc c0 c1 c2 c3 c4 hx ka hlit ho hkr
   go_wp2_with (at_builtin; go_loud (refine wpl_append rfl (.tmp 12) (.tmp 14) rfl tItmR HOa.out HLit.out.sl rfl rfl (by simp; omega) (by have := HLn.out; simp [maxLen]; omega) (by have := HLn.out; simp; omega) ?_))
   intro v' w5 ho5 hk5 hf5
   rw [HT.out] at ho5
   go_wp2_with fail
   go_roundw
   case rel => exact ⟨k + 1, by omega, by go_num, ho5, HKa.out.step hk5 (fun g hg => .inr (HO.out.2 g hg))⟩
   case measure => (simp [intOf]) <;> omega
  ·obtain rfl : k = l.length := by omega
   rw [List.take_length] at ho
   go_wp2
   go_ret
   exact ⟨_, rfl, ho, HKr.out⟩
end Go.Proofs.YtonkgdoaobojbaaGreatDoor
