/-
  Layer 26: contracts: the bytes of any part; how many bytes all parts have.
-/
import Derived.Test.YtonkgdoaobojbaaGreatDoorG05
import Derived.BigQuiet
import Derived.StillTailTactics
import Derived.Deep.QuietTactic
import Derived.Deep.Cut
import Derived.Deep.CutRange
import Derived.Test.YtonkgdoaobojbaaGreatDoorG01
import Derived.ProofKit
import Derived.OpenShut
import Derived.ShutString
import Derived.ChangeOld
import Derived.Deep.Slices
import Derived.Deep.Fields
import Derived.Test.YtonkgdoaobojbaaGreatDoorRows
import Derived.LaidSub

set_option linter.unusedSimpArgs false
set_option linter.unusedVariables false
set_option maxRecDepth 100000
set_option maxHeartbeats 8000000
namespace Go.Proofs.YtonkgdoaobojbaaGreatDoor
open Go Go.RowKit
theorem leastK_fin (cs : List Nat) : ∀ k, k <= cs.length -> ∀ b, leastK cs k = some b -> ∃ x, cs[b]? = some x ∧ ∀ (j : Nat) y, j < k -> cs[j]? = some y -> x <= y
 | 0, _, b, h => by cases h
 | k + 1, hk, b, h => by
   unfold leastK at h
   obtain ⟨z, hz⟩ : ∃ z, cs[k]? = some z := ⟨_, List.getElem?_eq_getElem (by omega)⟩
   have hzd : cs.getD k 0 = z := by simp [List.getD, hz]
   rcases hl : leastK cs k with _ | b'
   ·rw [hl] at h
    cases h
    refine ⟨z, hz, fun j y hj hy => ?_⟩
    have hk0 : k = 0 := by
     apply Decidable.byContradiction
     intro h0
     obtain ⟨b2, hb2⟩ := leastK_some cs k (by omega)
     rw [hl] at hb2; cases hb2
    obtain rfl : j = k := by omega
    rw [hz] at hy; cases hy
    exact Nat.le_refl _
   ·rw [hl] at h
    obtain ⟨x, hx, hm⟩ := leastK_fin cs k (by omega) b' hl
    have hxd : cs.getD b' 0 = x := by simp [List.getD, hx]
    simp only [hzd, hxd] at h
    split at h
    ·next hlt =>
     cases h
     refine ⟨z, hz, fun j y hj hy => ?_⟩
     by_cases hjk : j = k
     ·subst hjk; rw [hz] at hy; cases hy; exact Nat.le_refl _
     ·have := hm j y (by omega) hy; omega
    ·next hlt =>
     cases h
     refine ⟨x, hx, fun j y hj hy => ?_⟩
     by_cases hjk : j = k
     ·subst hjk; rw [hz] at hy; cases hy; omega
     ·exact hm j y (by omega) hy
theorem bestP_way {ws : List Int} {x : ByteArray} (h : (bestP ws x).2 = 0) : (bestP ws x).1 = 1 ∨ (bestP ws x).1 = 2 ∨ ((bestP ws x).1 = 3 ∧ x.size <= 256) := by
 unfold bestP at h ⊢
 rcases hl : leastK (ws.map fun y => costW y x) ws.length with _ | b
 ·rw [hl] at h; exact absurd (show (12 : Int) = 0 from h) (by decide)
 ·rw [hl] at h
  simp only at h ⊢
  by_cases hc : (ws.map fun y => costW y x).getD b 0 < 9218868437227405312
  ·rw [if_pos hc]
   simp only
   have hbl := leastK_lt _ _ _ hl
   obtain ⟨y, hy⟩ : ∃ y, ws[b]? = some y := ⟨_, List.getElem?_eq_getElem hbl⟩
   have hyd : ws.getD b 0 = y := by simp [List.getD, hy]
   have hcd : (ws.map fun y => costW y x).getD b 0 = costW y x := by simp [List.getD, hy]
   rw [hyd]
   rw [hcd] at hc
   unfold costW at hc
   by_cases h1 : y = 1
   ·exact .inl h1
   ·rw [if_neg h1] at hc
    by_cases h2 : y = 2
    ·exact .inr (.inl h2)
    ·rw [if_neg h2] at hc
     by_cases h3 : y = 3
     ·rw [if_pos h3] at hc
      by_cases h4 : x.size <= 256
      ·exact .inr (.inr ⟨h3, h4⟩)
      ·rw [if_neg h4] at hc; omega
     ·rw [if_neg h3] at hc
      unfold nanW at hc
      omega
  ·rw [if_neg hc] at h
   exact absurd h (by decide)
theorem partBytes_any (k way : Int) (x : ByteArray) (hw : way = 1 ∨ way = 2 ∨ (way = 3 ∧ x.size <= 256)) (hs : x.size <= 1000000) (w : World) (hdb : DbOk w) :
 Calls Tryz.prog 14 #[.agg #[.int .i64 k, .int .i64 way, .string (tellB way x)]] w fun e w' => e = .returned (.tuple #[.string x, .int .i64 0]) ∧ Keeps NoB w w' := by
 rcases hw with rfl | rfl | ⟨rfl, h256⟩
 ·rw [show tellB 1 x = x from rfl]
  have HK := Lib.hid ((Keeps.refl NoB w).alloc (.cells #[.int .i64 k, .int .i64 1, .string x] 45))
  go_enter Tryz.func14, Tryz.ntmps14
  go_wp2
  go_ret2
  exact ⟨rfl, HK.out⟩
 ·have h := bytes_uu k x.data.toList (by rw [len_data]; omega) w
  rw [show (⟨x.data.toList.toArray⟩ : ByteArray) = x by simp] at h
  exact h
 ·have hl := len_data x
  have hle := escL_le x.data.toList
  have hfs : (⟨(escL x.data.toList).toArray⟩ : ByteArray).size = (escL x.data.toList).length := by show (escL x.data.toList).toArray.size = _; simp
  have ka : Keeps NoB w (w.alloc (.cells #[.int .i64 k, .int .i64 3, .string (tellB 3 x)] 45)) := (Keeps.refl _ _).alloc _
  have HF := Lib.hid (format_fok (w := w.alloc (.cells #[.int .i64 k, .int .i64 3, .string (tellB 3 x)] 45)) (pa := none) (ca := 0) (args := []) (S1 := fun _ => True) ⟨by simp, by simp, fun _ => rfl, (fun h => by omega), (fun h => by simp at h)⟩ (onc_escL x []) (by rw [hfs]; omega) (by rw [hl]; omega) (.inl rfl) (by decide) (hdb.on ka))
  have HK := Lib.hid ka
  rw [show (⟨x.data.toList.toArray⟩ : ByteArray) = x by simp] at HF
  rw [show tellB 3 x = (⟨(escL x.data.toList).toArray⟩ : ByteArray) from rfl] at *
  simp only [List.length_nil] at HF
  clear hl hle hfs ka hdb
  generalize (⟨(escL x.data.toList).toArray⟩ : ByteArray) = t at *
  go_enter Tryz.func14, Tryz.ntmps14
  go_wp2_with (go_at_call 33; go_loud (refine HF.out.mono ?_); rintro e w1 ⟨rfl, hk1⟩)
  go_ret2
  exact ⟨rfl, HK.out.trans hk1⟩
def tolN (ps : List Prt) : Nat := (ps.map fun y => y.t.size).sum
theorem tolN_snoc {l : List Prt} {k : Nat} {x : Prt} (h : l[k]? = some x) : tolN (l.take (k + 1)) = tolN (l.take k) + x.t.size := by
 unfold tolN
 rw [List.take_add_one, h, List.map_append, List.sum_append]
 simp
theorem told_any (ps : List Prt) (hps : ∀ x ∈ ps, x.t.size <= 10000000) (hl : ps.length <= 10000000) (w : World) {S : Nat -> Prop} {p : Option Addr} {c : Nat} (hS : SlAt encPrt S w p c ps) (tp : Option Addr) (tn tc : Nat) (fp : Option Addr) (fn fc : Nat) :
 Calls Tryz.prog 15 #[.agg #[.slice tp tn tc, .slice fp fn fc, .slice p ps.length c]] w fun e w' => e = .returned (.int .i64 ((tolN ps : Nat) : Int)) ∧ Keeps NoB w w' := by
 have hcap := hS.cap
 have hmax := hS.max
 unfold maxLen at hmax
 have HS := Lib.hid hS
 have HL := Lib.hid hps
 have HK := Lib.hid ((Keeps.refl NoB w).alloc (.cells #[.slice tp tn tc, .slice fp fn fc, .slice p ps.length c] 31))
 obtain ⟨T, hT⟩ : ∃ T, tolN ps = T := ⟨_, rfl⟩
 rw [hT]
 have HT := Lib.hid hT
 clear hS hps hT
 go_enter Tryz.func15, Tryz.ntmps15
 go_upto_region 3 with fail
 generalize w.alloc (.cells #[.slice tp tn tc, .slice fp fn fc, .slice p ps.length c] 31) = w0 at *
 go_loopw [3, 9] (fun n i wr => ∃ k t : Nat, k <= ps.length ∧ i = .int .i64 k ∧ n = .int .i64 t ∧ (t : Int) <= 10000000 * (k : Int) ∧ Keeps NoB w wr ∧ Hid (tolN (ps.take k) = t)) (fun _ i _ => ps.length + 1 - (intOf i).toNat)
 case atStart => exact ⟨0, 0, Nat.zero_le _, rfl, rfl, by omega, HK.out, Lib.hid rfl⟩
 case round =>
  rename World => wr
  obtain ⟨k, t, hk, rfl, rfl, htk, hkr, hI⟩ := hrel
  by_cases hlt : k < ps.length
  ·obtain ⟨x, hx⟩ : ∃ x, ps[k]? = some x := ⟨_, List.getElem?_eq_getElem hlt⟩
   obtain ⟨g, o, rfl, _, hgl, c0, c1, c2⟩ := HS.out.prt hx
   have d0 := (hkr.cell (p := ⟨g, o + k * 3, none⟩) hgl (fun h => h)).trans c0
   have d1 := (hkr.cell (p := ⟨g, o + k * 3 + 1, none⟩) hgl (fun h => h)).trans c1
   have d2 := (hkr.cell (p := ⟨g, o + k * 3 + 2, none⟩) hgl (fun h => h)).trans c2
   have dl := lt_of_cell d0
   have z0 := HL.out x (List.mem_of_getElem? hx)
   have HN : Hid (tolN (ps.take (k + 1)) = t + x.t.size) := Lib.hid (by rw [tolN_snoc hx, hI.out])
   obtain ⟨xf, xw, xt⟩ := x
   simp only at d0 d1 d2 z0
   have z1 : (xt.size : Int) <= 10000000 := by omega
   have HKa := Lib.hid (hkr.alloc (.cells #[.int .i64 xf, .int .i64 xw, .string xt] 45))
   have hk9 : (k : Int) <= 10000000 := by omega
   clear c0 c1 c2 hx hI hkr z0
   go_wp2
   go_roundw
   case rel => exact ⟨k + 1, t + xt.size, by omega, by go_num, by go_num, by omega, HKa.out, HN⟩
   case measure => (simp [intOf]) <;> omega
  ·obtain rfl : k = ps.length := by omega
   have hI2 := hI.out
   rw [List.take_length, HT.out] at hI2
   have HE := Lib.hid hI2
   have HKr := Lib.hid hkr
   clear hI hI2 hkr
   go_wp2
   go_ret
   rw [HE.out]
   exact ⟨rfl, HKr.out⟩
end Go.Proofs.YtonkgdoaobojbaaGreatDoor
set_option maxHeartbeats 4000000
namespace Go.Proofs.YtonkgdoaobojbaaGreatDoor
def upR (s : ByteArray) : ByteArray := if lastI s 47 s.size < 0 then ⟨#[]⟩ else s.extract 0 (lastI s 47 s.size).toNat
def fndI (pre : List Itm) (s : ByteArray) : Option Itm := pre.find? (fun y => decide (y.p = s))
def refAdd (pre : List Itm) (x : Itm) : Int :=
 if shpE x ≠ 0 then shpE x
 else if (match pre.getLast? with | some y => bLt y.p x.p | none => true) = false then 13
 else if upR x.p ≠ ⟨#[]⟩ ∧ (match fndI pre (upR x.p) with | none => true | some y => decide (y.kind ≠ 2)) = true then 14
 else if x.same ≠ ⟨#[]⟩ ∧ (match fndI pre x.same with | none => true | some y => decide (y.kind ≠ 1 ∨ y.same ≠ ⟨#[]⟩ ∨ y.mode ≠ x.mode ∨ x.dat ≠ ⟨#[]⟩)) = true then 22
 else 0
def refGo (pre : List Itm) (k : Nat) : List Itm -> Int × Int
 | [] => (0, 0)
 | x :: r => if refAdd pre x ≠ 0 then (refAdd pre x, (k : Int)) else refGo (pre ++ [x]) (k + 1) r
def ckSt (pre : List Itm) : Ck := pre.foldl Ck.put ck0
theorem ckSt_snoc (pre : List Itm) (x : Itm) : ckSt (pre ++ [x]) = (ckSt pre).put x := by
 unfold ckSt
 rw [List.foldl_append]
 rfl
def ownB (x : Itm) : Bool := decide (x.same = ⟨#[]⟩ ∧ x.kind = 1)
structure CkIs (pre : List Itm) : Prop where
 ks : (ckSt pre).ks = pre.map fun y => (y.p, y.kind)
 fs : (ckSt pre).fs = (pre.filter ownB).map fun y => (y.p, y)
 last : (ckSt pre).last = match pre.getLast? with | some y => y.p | none => ⟨#[]⟩
theorem ckIs_n : ∀ (n : Nat) (pre : List Itm), pre.length = n -> CkIs pre
 | 0, pre, hn => by
   obtain rfl := List.eq_nil_of_length_eq_zero hn
   exact ⟨rfl, rfl, rfl⟩
 | n + 1, pre', hn => by
   rcases List.eq_nil_or_concat pre' with rfl | ⟨pre, x, rfl⟩
   ·cases hn
   have ih := ckIs_n n pre (by simpa using hn)
   simp only [List.concat_eq_append] at *
   refine ⟨?_, ?_, ?_⟩
   ·rw [ckSt_snoc, List.map_append, <- ih.ks]; rfl
   ·rw [ckSt_snoc, List.filter_append, List.map_append, <- ih.fs]
    show (if x.same = ⟨#[]⟩ ∧ x.kind = 1 then (ckSt pre).fs ++ [(x.p, x)] else (ckSt pre).fs) = _
    by_cases h : x.same = ⟨#[]⟩ ∧ x.kind = 1
    ·rw [if_pos h, List.filter_cons_of_pos (by unfold ownB; exact decide_eq_true h)]; rfl
    ·rw [if_neg h, List.filter_cons_of_neg (by unfold ownB; simpa using h)]; simp
   ·rw [ckSt_snoc, List.getLast?_concat]; rfl
theorem ckIs (pre : List Itm) : CkIs pre := ckIs_n _ pre rfl
def Rise (pre : List Itm) : Prop := pre.Pairwise fun a b => bLt a.p b.p = true
theorem rise_snoc {pre : List Itm} {x : Itm} (h : Rise pre) (hl : (match pre.getLast? with | some y => bLt y.p x.p | none => true) = true) : Rise (pre ++ [x]) := by
 refine List.pairwise_append.2 ⟨h, List.pairwise_singleton _ _, fun a ha b hb => ?_⟩
 obtain rfl := List.mem_singleton.1 hb
 rcases hg : pre.getLast? with _ | y
 ·rw [List.getLast?_eq_none_iff] at hg; subst hg; cases ha
 ·rw [hg] at hl
  obtain ⟨q, rfl⟩ : ∃ q, pre = q ++ [y] := by
   obtain ⟨q, hq⟩ := List.getLast?_eq_some_iff.1 hg
   exact ⟨q, hq⟩
  rcases List.mem_append.1 ha with h1 | h1
  ·exact bLt_trans ((List.pairwise_append.1 h).2.2 a h1 y (List.mem_singleton.2 rfl)) hl
  ·obtain rfl := List.mem_singleton.1 h1; exact hl
theorem rise_inj {pre : List Itm} (h : Rise pre) : ∀ a ∈ pre, ∀ b ∈ pre, a.p = b.p -> a = b := by
 induction pre with
 | nil => intro a ha; cases ha
 | cons c l ih =>
   intro a ha b hb e
   have h1 := List.pairwise_cons.1 h
   rcases List.mem_cons.1 ha with ea | ha2
   ·rcases List.mem_cons.1 hb with eb | hb2
    ·rw [ea, eb]
    ·have := h1.1 b hb2
     rw [<- ea, e, bLt_irrefl] at this; cases this
   ·rcases List.mem_cons.1 hb with eb | hb2
    ·have := h1.1 a ha2
     rw [<- eb, e, bLt_irrefl] at this; cases this
    ·exact ih h1.2 a ha2 b hb2 e
theorem fnd_kind (pre : List Itm) (u : ByteArray) : (ckSt pre).kind u = match fndI pre u with | some y => y.kind | none => 0 := by
 unfold Ck.kind fndI
 rw [(ckIs pre).ks, List.find?_map, show ((fun x : ByteArray × Int => decide (x.1 = u)) ∘ fun y : Itm => (y.p, y.kind)) = fun y => decide (y.p = u) from rfl]
 cases pre.find? (fun y => decide (y.p = u)) <;> rfl
theorem fnd_item {pre : List Itm} (h : Rise pre) (u : ByteArray) : (ckSt pre).item u = match fndI pre u with | some y => if y.same = ⟨#[]⟩ ∧ y.kind = 1 then some y else none | none => none := by
 unfold Ck.item fndI
 rw [(ckIs pre).fs, List.find?_map, Option.map_map, show ((fun x : ByteArray × Itm => decide (x.1 = u)) ∘ fun y : Itm => (y.p, y)) = fun y => decide (y.p = u) from rfl, show ((fun x : ByteArray × Itm => x.2) ∘ fun y : Itm => (y.p, y)) = id from rfl, Option.map_id, id]
 rcases hf : pre.find? (fun y => decide (y.p = u)) with _ | y
 ·rw [hf]
  exact List.find?_eq_none.2 fun z hz => List.find?_eq_none.1 hf z (List.mem_filter.1 hz).1
 ·rw [hf]
  have hy := List.mem_of_find?_eq_some hf
  have hyp : y.p = u := by simpa using List.find?_some hf
  show _ = if y.same = ⟨#[]⟩ ∧ y.kind = 1 then some y else none
  by_cases ho : y.same = ⟨#[]⟩ ∧ y.kind = 1
  ·rw [if_pos ho]
   rcases hg : (pre.filter ownB).find? (fun y => decide (y.p = u)) with _ | z
   ·exact absurd hyp (by simpa using List.find?_eq_none.1 hg y (List.mem_filter.2 ⟨hy, by unfold ownB; exact decide_eq_true ho⟩))
   ·have hz := (List.mem_filter.1 (List.mem_of_find?_eq_some hg)).1
    have hzp : z.p = u := by simpa using List.find?_some hg
    rw [hg, rise_inj h z hz y hy (hzp.trans hyp.symm)]
  ·rw [if_neg ho, List.find?_eq_none]
   intro z hz hzp
   have hm := List.mem_filter.1 hz
   have e : z = y := rise_inj h z hm.1 y hy ((by simpa using hzp : z.p = u).trans hyp.symm)
   subst e
   have h2 := hm.2
   unfold ownB at h2
   exact ho (of_decide_eq_true h2)
theorem upB_dot {s : ByteArray} (h : plainB s = true) : (upB s = ⟨#[46]⟩ ↔ upR s = ⟨#[]⟩) ∧ (upR s ≠ ⟨#[]⟩ -> upB s = upR s) := by
 unfold upB upR
 by_cases hn : lastI s 47 s.size < 0
 ·rw [if_pos hn, if_pos hn]; simp
 ·rw [if_neg hn, if_neg hn]
  obtain ⟨i, hi⟩ : ∃ i : Nat, lastI s 47 s.size = i := ⟨(lastI s 47 s.size).toNat, by omega⟩
  have hat := lastI_at s 47 s.size i hi
  have hps := plain_slash h i hat
  rw [hi]
  show (s.extract 0 i = ⟨#[46]⟩ ↔ s.extract 0 i = ⟨#[]⟩) ∧ _
  have hz : (s.extract 0 i).size = i := by rw [ByteArray.size_extract]; omega
  have h1 : s.extract 0 i ≠ ⟨#[]⟩ := fun e => by
   rw [e] at hz
   have h5 : 0 = i := hz
   omega
  have h2 : s.extract 0 i ≠ ⟨#[46]⟩ := fun e => by
   have hz2 : 1 = i := by rw [e] at hz; exact hz
   subst hz2
   have h0 : s.data.toList[0]? = some 46 := by
    rw [<- sub_at s 1 0 (by omega), e]; rfl
   unfold plainB at h
   simp only [Bool.and_eq_true] at h
   have h3 : ∃ t, s.data.toList = 46 :: 47 :: t := by
    rcases hl : s.data.toList with _ | ⟨a, _ | ⟨b, t⟩⟩
    ·rw [hl] at h0; simp at h0
    ·rw [hl] at hat; simp at hat
    ·rw [hl] at h0 hat
     simp at h0 hat
     exact ⟨t, by rw [h0, hat]⟩
   obtain ⟨t, ht⟩ := h3
   have h4 : ofL [46] ∈ pcs s := by
    unfold pcs
    rw [ht, show (46 :: 47 :: t : List UInt8) = [46] ++ 47 :: t from rfl, pcsL_cut [46] t (by simp)]
    simp
   exact absurd (List.all_eq_true.1 h.2 _ h4) (by decide)
  exact ⟨⟨fun e => absurd e h2, fun e => absurd e h1⟩, fun _ => rfl⟩
theorem add_ref {pre : List Itm} (h : Rise pre) (x : Itm) : addE (shpE x) (upB x.p) (ckSt pre) x = refAdd pre x := by
 unfold addE refAdd
 by_cases hs : shpE x ≠ 0
 ·rw [if_pos hs, if_pos hs]
 ·rw [if_neg hs, if_neg hs]
  have hpl : plainB x.p = true := by
   have h0 : shpE x = 0 := by simpa using hs
   unfold shpE at h0
   rcases e : plainB x.p with _ | _
   ·rw [e, if_pos rfl] at h0; exact absurd h0 (by decide)
   ·rfl
  have hlast : bLt (ckSt pre).last x.p = (match pre.getLast? with | some y => bLt y.p x.p | none => true) := by
   rw [(ckIs pre).last]
   cases pre.getLast? with
   | some y => rfl
   | none =>
     have h1 := (plain_pcs hpl).2.1
     show bLt ⟨#[]⟩ x.p = true
     unfold bLt
     rw [decide_eq_true_iff]
     rcases e : x.p.data.toList with _ | ⟨a, l⟩
     ·have := len_data x.p; rw [e] at this; simp at this; omega
     ·exact List.nil_lt_cons _ _
  rw [hlast]
  by_cases hl : (match pre.getLast? with | some y => bLt y.p x.p | none => true) = false
  ·rw [if_pos hl, if_pos hl]
  ·rw [if_neg hl, if_neg hl]
   obtain ⟨u1, u2⟩ := upB_dot hpl
   have hu : (upB x.p ≠ ⟨#[46]⟩ ∧ (ckSt pre).kind (upB x.p) ≠ 2) ↔ (upR x.p ≠ ⟨#[]⟩ ∧ (match fndI pre (upR x.p) with | none => true | some y => decide (y.kind ≠ 2)) = true) := by
    have hk : ∀ hne : upR x.p ≠ ⟨#[]⟩, ((ckSt pre).kind (upB x.p) ≠ 2 ↔ (match fndI pre (upR x.p) with | none => true | some y => decide (y.kind ≠ 2)) = true) := fun hne => by
     rw [u2 hne, fnd_kind]
     cases fndI pre (upR x.p) with
     | none => simp
     | some y => simp
    exact ⟨fun e => ⟨fun h2 => e.1 (u1.2 h2), (hk (fun h2 => e.1 (u1.2 h2))).1 e.2⟩, fun e => ⟨fun h2 => e.1 (u1.1 h2), (hk e.1).2 e.2⟩⟩
   by_cases hc : upR x.p ≠ ⟨#[]⟩ ∧ (match fndI pre (upR x.p) with | none => true | some y => decide (y.kind ≠ 2)) = true
   ·rw [if_pos hc, if_pos (hu.2 hc)]
   ·rw [if_neg hc, if_neg (fun e => hc (hu.1 e)), fnd_item h]
    by_cases hsm : x.same = ⟨#[]⟩
    ·rw [if_neg (by simp [hsm]), if_neg (by simp [hsm])]
    ·rw [if_pos hsm]
     rcases hf : fndI pre x.same with _ | y
     ·rw [if_pos ⟨hsm, rfl⟩]
     ·simp only
      by_cases ho : y.same = ⟨#[]⟩ ∧ y.kind = 1
      ·rw [if_pos ho]
       simp only
       by_cases hm : y.mode ≠ x.mode ∨ x.dat ≠ ⟨#[]⟩
       ·rw [if_pos hm, if_pos ⟨hsm, by simp only [decide_eq_true_eq]; exact .inr (.inr hm)⟩]
       ·rw [if_neg hm, if_neg (fun e => by
         have := of_decide_eq_true e.2
         rcases this with h1 | h1 | h1
         ·exact h1 ho.2
         ·exact h1 ho.1
         ·exact hm h1)]
      ·rw [if_neg ho]
       rw [if_pos ⟨hsm, by
        rw [decide_eq_true_iff]
        by_cases h1 : y.kind = 1
        ·exact .inr (.inl fun h2 => ho ⟨h2, h1⟩)
        ·exact .inl h1⟩]
theorem refGo_eq : ∀ (r pre : List Itm) (k : Nat), Rise pre -> ckGo (ckSt pre) k r = refGo pre k r
 | [], _, _, _ => rfl
 | x :: r, pre, k, h => by
   unfold ckGo refGo
   rw [add_ref h x]
   by_cases he : refAdd pre x ≠ 0
   ·rw [if_pos he, if_pos he]
   ·rw [if_neg he, if_neg he, <- ckSt_snoc]
    refine refGo_eq r (pre ++ [x]) (k + 1) (rise_snoc h ?_)
    rcases hb : (match pre.getLast? with | some y => bLt y.p x.p | none => true) with _ | _
    ·refine absurd ?_ he
     unfold refAdd
     by_cases hs : shpE x ≠ 0
     ·rw [if_pos hs]; exact hs
     ·rw [if_neg hs, if_pos hb]; decide
    ·exact hb
theorem ckE_ref (l : List Itm) : ckE l = if l.length = 0 then (12, 0) else if 4096 < l.length then (24, 0) else refGo [] 0 l := by
 unfold ckE
 rw [show ckGo ck0 0 l = ckGo (ckSt []) 0 l from rfl, refGo_eq l [] 0 List.Pairwise.nil]
end Go.Proofs.YtonkgdoaobojbaaGreatDoor
set_option maxHeartbeats 8000000
namespace Go.Proofs.YtonkgdoaobojbaaGreatDoor
open Go Go.RowKit
theorem r2Right_any (s : ByteArray) (hs : s.size <= maxLen) (w : World) : Calls Tryz.prog 44 #[.string s] w fun e w' => e = .returned (.bool (rightB s)) ∧ w = w' := by
 have HH := Lib.hid (fun wx => r2has_any s 0 wx hs (by decide) (by decide))
 rw [show ((0 : Int)).toNat.toUInt8 = 0 from rfl] at HH
 have hR : rightB s = (decide (1 <= s.size) && decide (s.size <= 4095) && !hasB s 0) := rfl
 rw [hR]
 clear hR hs
 generalize hasB s 0 = b at *
 by_cases h1 : 1 <= s.size
 ·rw [decide_eq_true h1]
  have h1' : (1 : Int) <= (s.size : Int) := by omega
  by_cases h2 : s.size <= 4095
  ·rw [decide_eq_true h2]
   have h2' : (s.size : Int) <= 4095 := by omega
   clear h1 h2
   cases b
   all_goals
    go_enter Tryz.func44, Tryz.ntmps44
    go_wp2_with (go_at_call 74; go_loud (refine (HH.out _).mono ?_); rintro e w1 ⟨rfl, rfl⟩)
    go_ret
    exact ⟨rfl, rfl⟩
  ·rw [decide_eq_false h2]
   have h2' : ¬ (s.size : Int) <= 4095 := by omega
   clear h1 h2
   go_enter Tryz.func44, Tryz.ntmps44
   go_wp2
   go_ret
   exact ⟨rfl, rfl⟩
 ·rw [decide_eq_false h1]
  have h1' : ¬ (1 : Int) <= (s.size : Int) := by omega
  clear h1
  go_enter Tryz.func44, Tryz.ntmps44
  go_wp2
  go_ret
  exact ⟨rfl, rfl⟩
theorem r2Plain_any (s : ByteArray) (hs : s.size <= 1000000) (w : World) : Calls Tryz.prog 43 #[.string s] w fun e w' => e = .returned (.bool (plainB s)) ∧ Keeps NoB w w' := by
 have HR := Lib.hid (fun w1 : World => r2Right_any s (by unfold maxLen; omega) w1)
 have HPz := Lib.hid (pcs_size s)
 have HN := Lib.hid (fun (p : ByteArray) (hp : p ∈ pcs s) (w1 : World) => r2name_any p w1 (by have := pcs_size s p hp; unfold maxLen; omega))
 have HS := Lib.hid (fun w1 : World => pieces_any s w1 (by omega))
 have hlen := pcs_length s
 have HP : Hid (plainB s = (rightB s && (pcs s).all okName)) := Lib.hid rfl
 have hpos : 0 < (pcs s).length := by
  unfold pcs
  rw [List.length_map]
  exact List.length_pos_iff.2 (pcsL_ne _)
 clear HPz
 generalize plainB s = PB at *
 generalize pcs s = l at *
 generalize rightB s = rb at *
 go_enter Tryz.func43, Tryz.ntmps43
 go_upto_region 3 with (go_at_call 72; go_loud (refine (HS.out _).mono ?_); rintro e w2 ⟨v, rfl, hown, hk2⟩; obtain ⟨gb, cap, cur, rfl, _, hcb, hc1, hc2, _, _⟩ := hown.row hpos)
 have hat := Lib.hid hown.at
 have HK := Lib.hid hk2
 unfold maxLen at hc2
 clear hown hcb hk2
 go_loop [4] (fun i => ∃ k : Nat, k <= l.length ∧ i = .int .i64 k ∧ Hid ((l.take k).all okName = true)) (fun i => l.length + 1 - (intOf i).toNat)
 case atStart => exact ⟨0, Nat.zero_le _, rfl, Lib.hid rfl⟩
 case round =>
  obtain ⟨k, hk, rfl, hI⟩ := hrel
  by_cases hlt : k < l.length
  ·obtain ⟨x, hx⟩ : ∃ x, l[k]? = some x := ⟨_, List.getElem?_eq_getElem hlt⟩
   obtain ⟨g', off, he, _, _, f0⟩ := hat.out.str hx
   cases he
   rw [Nat.zero_add] at f0
   have fl := lt_of_cell f0
   have HNx := Lib.hid (HN.out x (List.mem_of_getElem? hx))
   have HSt : Hid ((l.take (k + 1)).all okName = okName x) := Lib.hid (by rw [List.take_add_one, hx, List.all_append, hI.out]; simp)
   have HAll : Hid (okName x = false -> l.all okName = false) := Lib.hid (fun h => by
    rw [Bool.eq_false_iff]
    intro h2
    rw [List.all_eq_true.1 h2 x (List.mem_of_getElem? hx)] at h
    cases h)
   clear hx hI
   generalize okName x = b at *
   cases b
   ·go_wp2_with (go_at_call 73; go_loud (refine (HNx.out _).mono ?_); rintro e w3 ⟨rfl, rfl⟩)
    go_ret
    rw [HP.out, HAll.out (by first | exact trivial | rfl), Bool.and_false]
    exact ⟨rfl, HK.out⟩
   ·go_wp2_with (go_at_call 73; go_loud (refine (HNx.out _).mono ?_); rintro e w3 ⟨rfl, rfl⟩)
    go_round
    case rel => exact ⟨k + 1, by omega, by go_num, HSt⟩
    case measure => (simp [intOf]) <;> omega
  ·obtain rfl : k = l.length := by omega
   have hI2 := hI.out
   rw [List.take_length] at hI2
   have HE : Hid (PB = rb) := Lib.hid (by rw [HP.out, hI2, Bool.and_true])
   clear hI hI2
   go_wp2_with (go_at_call 44; go_loud (refine (HR.out _).mono ?_); rintro e w3 ⟨rfl, rfl⟩)
   go_ret
   rw [HE.out]
   exact ⟨rfl, HK.out⟩
theorem refUp_any (s : ByteArray) (hs : s.size <= 1000000) (w : World) : Calls Tryz.prog 27 #[.string s] w fun e w' => e = .returned (.string (upR s)) ∧ w = w' := by
 have hU : Hid (upR s = if lastI s 47 s.size < 0 then ⟨#[]⟩ else s.extract 0 (lastI s 47 s.size).toNat) := Lib.hid rfl
 generalize upR s = U at *
 obtain ⟨P, hP⟩ : ∃ P, lastI s 47 s.size = P := ⟨_, rfl⟩
 rw [hP] at hU
 have HP := Lib.hid hP
 clear hP
 go_enter Tryz.func27, Tryz.ntmps27
 go_wp2
 go_loop [3] (fun v => ∃ k : Int, v = .int .i64 k ∧ -1 <= k ∧ k < s.size ∧ Hid (lastI s 47 (k + 1).toNat = P)) (fun v => (intOf v + 1).toNat)
 case atStart => exact ⟨(s.size : Int) - 1, by go_num, by omega, by omega, by rw [show ((s.size : Int) - 1 + 1).toNat = s.size by omega]; exact HP⟩
 case round =>
  obtain ⟨k, rfl, h1, h2, hI⟩ := hrel
  by_cases h0 : 0 <= k
  ·obtain ⟨j, rfl⟩ : ∃ j : Nat, k = j := ⟨k.toNat, by omega⟩
   have hj : j < s.size := by omega
   obtain ⟨z, hzz⟩ : ∃ z, s[j] = z := ⟨_, rfl⟩
   have hjl : s.data.toList[j]? = some z := by
    rw [List.getElem?_eq_getElem (by rw [len_data]; exact hj), <- hzz]
    rfl
   have hI2 := hI.out
   rw [show ((j : Int) + 1).toNat = j + 1 by omega, lastI, hjl] at hI2
   clear hI
   by_cases hc : z = 47
   ·subst hc
    rw [if_pos rfl] at hI2
    have HR : Hid (U = s.extract 0 j) := Lib.hid (by rw [hU.out, <- hI2, if_neg (by omega)]; rfl)
    clear hI2 hjl
    go_wp2
    go_ret
    rw [HR.out]
    exact ⟨rfl, rfl⟩
   ·have hb : ((z.toNat : Int) == 47) = false := by
     rw [byte_eq z 47 (by decide) (by decide), decide_eq_false_iff_not]
     exact hc
    rw [if_neg (by simpa using hc)] at hI2
    have HR : Hid (lastI s 47 ((j : Int) - 1 + 1).toNat = P) := Lib.hid (by rw [show ((j : Int) - 1 + 1).toNat = j by omega]; exact hI2)
    clear hc hI2 hjl
    go_wp2
    go_round
    case rel => exact ⟨(j : Int) - 1, by go_num, by omega, by omega, HR⟩
    case measure => first | (simp [intOf]; done) | (simp [intOf]; omega)
  ·obtain rfl : k = -1 := by omega
   have HR : Hid (-1 = P) := hI
   have HU2 : Hid (U = ⟨#[]⟩) := Lib.hid (by rw [hU.out, <- HR.out]; rfl)
   clear hI
   go_wp2
   go_ret
   rw [HU2.out]
   exact ⟨rfl, rfl⟩
def fndN (l : List Itm) (s : ByteArray) : Option Nat := l.findIdx? (fun y => decide (y.p = s))
theorem str_eq (a b : ByteArray) : (a.toList == b.toList) = decide (a = b) := by
 rw [Lib.toList_data, Lib.toList_data]
 rcases Decidable.em (a = b) with h | h
 ·subst h; simp
 ·rw [decide_eq_false h, beq_eq_false_iff_ne]
  exact fun e => h (ba_eq e)
theorem refFind_any (l : List Itm) (s : ByteArray) (w : World) {S : Nat -> Prop} {p : Option Addr} {c : Nat} (hS : SlAt encItm S w p c l) :
 Calls Tryz.prog 28 #[.slice p l.length c, .string s] w fun e w' => e = .returned (.int .i64 (match fndN l s with | some n => (n : Int) | none => -1)) ∧ w = w' := by
 have hcap := hS.cap
 have hmax := hS.max
 unfold maxLen at hmax
 have HS := Lib.hid hS
 obtain ⟨R, hR⟩ : ∃ R, (match fndN l s with | some n => (n : Int) | none => -1) = R := ⟨_, rfl⟩
 rw [hR]
 have HR := Lib.hid hR
 clear hS hR
 go_enter Tryz.func28, Tryz.ntmps28
 go_wp2
 go_loop [5] (fun i => ∃ k : Nat, k <= l.length ∧ i = .int .i64 k ∧ Hid (∀ (j : Nat) x, j < k -> l[j]? = some x -> x.p ≠ s)) (fun i => l.length + 1 - (intOf i).toNat)
 case atStart => exact ⟨0, Nat.zero_le _, rfl, Lib.hid (fun j x hj => by omega)⟩
 case round =>
  obtain ⟨k, hk, rfl, hI⟩ := hrel
  by_cases hlt : k < l.length
  ·obtain ⟨x, hx⟩ : ∃ x, l[k]? = some x := ⟨_, List.getElem?_eq_getElem hlt⟩
   obtain ⟨g, off, rfl, _, hg, f0, _⟩ := HS.out.itm hx
   have fl := lt_of_cell f0
   have hq := str_eq x.p s
   by_cases he : x.p = s
   ·rw [decide_eq_true he] at hq
    have HE : Hid ((k : Int) = R) := Lib.hid (by
     rw [<- HR.out]
     have hf : fndN l s = some k := by
      unfold fndN
      rw [List.findIdx?_eq_some_iff_getElem]
      refine ⟨hlt, ?_, fun j hj => ?_⟩
      ·rw [decide_eq_true_iff]
       rw [List.getElem?_eq_getElem hlt] at hx
       rw [Option.some.inj hx]; exact he
      ·rw [decide_eq_true_iff]
       exact hI.out j _ hj (List.getElem?_eq_getElem (by omega))
     rw [hf])
    obtain ⟨xp, xk, xm, xd, xs⟩ := x
    simp only at f0 hq
    clear he hx hI
    go_wp2
    go_ret
    rw [HE.out]
    exact ⟨rfl, rfl⟩
   ·rw [decide_eq_false he] at hq
    have HN : Hid (∀ (j : Nat) y, j < k + 1 -> l[j]? = some y -> y.p ≠ s) := Lib.hid (fun j y hj hy => by
     by_cases h : j = k
     ·subst h
      rw [hx] at hy
      cases hy
      exact he
     ·exact hI.out j y (by omega) hy)
    obtain ⟨xp, xk, xm, xd, xs⟩ := x
    simp only at f0 hq
    clear he hx hI
    go_wp2
    go_round
    case rel => exact ⟨k + 1, by omega, by go_num, HN⟩
    case measure => (simp [intOf]) <;> omega
  ·obtain rfl : k = l.length := by omega
   have HE : Hid (-1 = R) := Lib.hid (by
    rw [<- HR.out]
    have hf : fndN l s = none := by
     unfold fndN
     rw [List.findIdx?_eq_none_iff]
     intro x hx
     rw [decide_eq_false_iff_not]
     obtain ⟨j, hj, e⟩ := List.mem_iff_getElem.1 hx
     exact hI.out j x hj (by rw [List.getElem?_eq_getElem hj, e])
    rw [hf])
   clear hI
   go_wp2
   go_ret
   rw [HE.out]
   exact ⟨rfl, rfl⟩
theorem refAlone_any (i : Itm) (hp : i.p.size <= 1000000) (hd0 : i.dat.size <= 1000000) (w : World) : Calls Tryz.prog 26 #[i.v] w fun e w' => e = .returned (.int .i64 (shpE i)) ∧ Keeps NoB w w' := by
 have HP := Lib.hid (fun w1 : World => r2Plain_any i.p hp w1)
 have HR := Lib.hid (fun w1 : World => r2Right_any i.dat (by unfold maxLen; omega) w1)
 have HS : Hid (shpE i = if plainB i.p = false then 11 else if i.kind < 1 ∨ 3 < i.kind then 43 else if (i.mode < 0 ∨ 4095 < i.mode) ∨ (i.kind = 3 ∧ i.mode ≠ 511) then 10 else if (i.kind = 2 ∧ i.dat ≠ ⟨#[]⟩) ∨ (i.kind ≠ 1 ∧ i.same ≠ ⟨#[]⟩) then 43
  else if (i.kind = 1 ∧ 4194304 < i.dat.size) ∨ (i.kind = 3 ∧ 4095 < i.dat.size) then 18 else if i.kind = 3 ∧ rightB i.dat = false then 11 else 0) := Lib.hid rfl
 generalize shpE i = R at *
 obtain ⟨p, kind, mode, dat, same⟩ := i
 simp only at HP HR HS hp hd0
 generalize plainB p = pb at *
 generalize rightB dat = rb at *
 show Calls Tryz.prog 26 #[.agg #[.string p, .int .i64 kind, .int .i64 mode, .string dat, .string same]] w _
 have HK := Lib.hid ((Keeps.refl NoB w).alloc (.cells #[.string p, .int .i64 kind, .int .i64 mode, .string dat, .string same] 52))
 have HI := Lib.hid (Bk.new (Keeps.refl NoB (w.alloc (.cells #[.string p, .int .i64 kind, .int .i64 mode, .string dat, .string same] 52))))
 have hd : (dat = ⟨#[]⟩) ∨ (dat ≠ ⟨#[]⟩ ∧ (!dat.toList.isEmpty) = true ∧ dat.toList.isEmpty = false) := by
  rcases Decidable.em (dat = ⟨#[]⟩) with h | h
  ·exact .inl h
  ·exact .inr ⟨h, notEmpty_eq h, by simpa using notEmpty_eq h⟩
 have hsm : (same = ⟨#[]⟩) ∨ (same ≠ ⟨#[]⟩ ∧ (!same.toList.isEmpty) = true ∧ same.toList.isEmpty = false) := by
  rcases Decidable.em (same = ⟨#[]⟩) with h | h
  ·exact .inl h
  ·exact .inr ⟨h, notEmpty_eq h, by simpa using notEmpty_eq h⟩
 have hz1 : ¬ (4194304 : Int) < (dat.size : Int) := by omega
 have hz2 : ¬ 4194304 < dat.size := by omega
 clear hp
 cases pb with
 | false =>
   have HE := Lib.hid (HS.out.trans (if_pos rfl))
   clear hd hsm
   (go_enter Tryz.func26, Tryz.ntmps26; go_wp2_with (first | (go_at_call 43; go_loud (refine (HP.out _).mono ?_); rintro e w1 ⟨rfl, hk1⟩; have hb := HI.out.on hk1; have b0 := hb.cell 0 _ rfl; have b1 := hb.cell 1 _ rfl; have b2 := hb.cell 2 _ rfl; have b3 := hb.cell 3 _ rfl; have b4 := hb.cell 4 _ rfl; have bl := hb.lt) | (go_at_call 44; go_loud (refine (HR.out _).mono ?_); rintro e w2 ⟨rfl, rfl⟩)); go_ret; rw [HE.out]; exact ⟨rfl, HK.out.trans hk1⟩)
 | true =>
   have HS2 := Lib.hid (HS.out.trans (if_neg (by simp)))
   clear HS
   by_cases hk : kind < 1 ∨ 3 < kind
   ·have HE := Lib.hid (HS2.out.trans (if_pos hk))
    have hk' : kind < 1 ∨ (¬ kind < 1 ∧ 3 < kind) := by omega
    clear HS2 hk hd hsm
    rcases hk' with hk' | ⟨hk', hk''⟩
    ·(go_enter Tryz.func26, Tryz.ntmps26; go_wp2_with (first | (go_at_call 43; go_loud (refine (HP.out _).mono ?_); rintro e w1 ⟨rfl, hk1⟩; have hb := HI.out.on hk1; have b0 := hb.cell 0 _ rfl; have b1 := hb.cell 1 _ rfl; have b2 := hb.cell 2 _ rfl; have b3 := hb.cell 3 _ rfl; have b4 := hb.cell 4 _ rfl; have bl := hb.lt) | (go_at_call 44; go_loud (refine (HR.out _).mono ?_); rintro e w2 ⟨rfl, rfl⟩)); go_ret; rw [HE.out]; exact ⟨rfl, HK.out.trans hk1⟩)
    ·(go_enter Tryz.func26, Tryz.ntmps26; go_wp2_with (first | (go_at_call 43; go_loud (refine (HP.out _).mono ?_); rintro e w1 ⟨rfl, hk1⟩; have hb := HI.out.on hk1; have b0 := hb.cell 0 _ rfl; have b1 := hb.cell 1 _ rfl; have b2 := hb.cell 2 _ rfl; have b3 := hb.cell 3 _ rfl; have b4 := hb.cell 4 _ rfl; have bl := hb.lt) | (go_at_call 44; go_loud (refine (HR.out _).mono ?_); rintro e w2 ⟨rfl, rfl⟩)); go_ret; rw [HE.out]; exact ⟨rfl, HK.out.trans hk1⟩)
   ·have HS3 := Lib.hid (HS2.out.trans (if_neg hk))
    have hkk : kind = 1 ∨ kind = 2 ∨ kind = 3 := by omega
    clear HS2 hk
    by_cases hm : mode < 0 ∨ 4095 < mode
    ·have HE := Lib.hid (HS3.out.trans (if_pos (.inl hm)))
     have hm' : mode < 0 ∨ (¬ mode < 0 ∧ 4095 < mode) := by omega
     clear HS3 hm hd hsm
     rcases hm' with hm' | ⟨hm', hm''⟩ <;> rcases hkk with rfl | rfl | rfl
     all_goals (go_enter Tryz.func26, Tryz.ntmps26; go_wp2_with (first | (go_at_call 43; go_loud (refine (HP.out _).mono ?_); rintro e w1 ⟨rfl, hk1⟩; have hb := HI.out.on hk1; have b0 := hb.cell 0 _ rfl; have b1 := hb.cell 1 _ rfl; have b2 := hb.cell 2 _ rfl; have b3 := hb.cell 3 _ rfl; have b4 := hb.cell 4 _ rfl; have bl := hb.lt) | (go_at_call 44; go_loud (refine (HR.out _).mono ?_); rintro e w2 ⟨rfl, rfl⟩)); go_ret; rw [HE.out]; exact ⟨rfl, HK.out.trans hk1⟩)
    ·have hm1 : ¬ mode < 0 := fun h => hm (.inl h)
     have hm2 : ¬ 4095 < mode := fun h => hm (.inr h)
     rcases hkk with rfl | rfl | rfl
     ·have HE : Hid (R = 0) := Lib.hid (HS3.out.trans (by rw [if_neg (by intro h; rcases h with h | h; exact hm h; exact absurd h.1 (by decide)), if_neg (by simp), if_neg (by simpa using hz2), if_neg (by simp)]))
      clear HS3 hm hz2 hd hsm
      (go_enter Tryz.func26, Tryz.ntmps26; go_wp2_with (first | (go_at_call 43; go_loud (refine (HP.out _).mono ?_); rintro e w1 ⟨rfl, hk1⟩; have hb := HI.out.on hk1; have b0 := hb.cell 0 _ rfl; have b1 := hb.cell 1 _ rfl; have b2 := hb.cell 2 _ rfl; have b3 := hb.cell 3 _ rfl; have b4 := hb.cell 4 _ rfl; have bl := hb.lt) | (go_at_call 44; go_loud (refine (HR.out _).mono ?_); rintro e w2 ⟨rfl, rfl⟩)); go_ret; rw [HE.out]; exact ⟨rfl, HK.out.trans hk1⟩)
     ·have HS4 := HS3.out.trans (if_neg (by intro h; rcases h with h | h; exact hm h; exact absurd h.1 (by decide)))
      clear HS3 hm hz2
      rcases hd with rfl | ⟨d0, d1, d2⟩
      ·rcases hsm with rfl | ⟨s0, s1, s2⟩
       ·have HE : Hid (R = 0) := Lib.hid (HS4.trans (by rw [if_neg (by simp), if_neg (by simp), if_neg (by simp)]))
        clear HS4
        (go_enter Tryz.func26, Tryz.ntmps26; go_wp2_with (first | (go_at_call 43; go_loud (refine (HP.out _).mono ?_); rintro e w1 ⟨rfl, hk1⟩; have hb := HI.out.on hk1; have b0 := hb.cell 0 _ rfl; have b1 := hb.cell 1 _ rfl; have b2 := hb.cell 2 _ rfl; have b3 := hb.cell 3 _ rfl; have b4 := hb.cell 4 _ rfl; have bl := hb.lt) | (go_at_call 44; go_loud (refine (HR.out _).mono ?_); rintro e w2 ⟨rfl, rfl⟩)); go_ret; rw [HE.out]; exact ⟨rfl, HK.out.trans hk1⟩)
       ·have HE : Hid (R = 43) := Lib.hid (HS4.trans (if_pos (.inr ⟨by decide, s0⟩)))
        clear HS4 s0
        (go_enter Tryz.func26, Tryz.ntmps26; go_wp2_with (first | (go_at_call 43; go_loud (refine (HP.out _).mono ?_); rintro e w1 ⟨rfl, hk1⟩; have hb := HI.out.on hk1; have b0 := hb.cell 0 _ rfl; have b1 := hb.cell 1 _ rfl; have b2 := hb.cell 2 _ rfl; have b3 := hb.cell 3 _ rfl; have b4 := hb.cell 4 _ rfl; have bl := hb.lt) | (go_at_call 44; go_loud (refine (HR.out _).mono ?_); rintro e w2 ⟨rfl, rfl⟩)); go_ret; rw [HE.out]; exact ⟨rfl, HK.out.trans hk1⟩)
      ·have HE : Hid (R = 43) := Lib.hid (HS4.trans (if_pos (.inl ⟨rfl, d0⟩)))
       clear HS4 d0 hsm
       (go_enter Tryz.func26, Tryz.ntmps26; go_wp2_with (first | (go_at_call 43; go_loud (refine (HP.out _).mono ?_); rintro e w1 ⟨rfl, hk1⟩; have hb := HI.out.on hk1; have b0 := hb.cell 0 _ rfl; have b1 := hb.cell 1 _ rfl; have b2 := hb.cell 2 _ rfl; have b3 := hb.cell 3 _ rfl; have b4 := hb.cell 4 _ rfl; have bl := hb.lt) | (go_at_call 44; go_loud (refine (HR.out _).mono ?_); rintro e w2 ⟨rfl, rfl⟩)); go_ret; rw [HE.out]; exact ⟨rfl, HK.out.trans hk1⟩)
     ·by_cases h5 : mode = 511
      ·subst h5
       have HS4 := HS3.out.trans (if_neg (by intro h; rcases h with h | h; exact hm h; exact absurd rfl h.2))
       clear HS3 hm hm1 hm2 hd
       rcases hsm with rfl | ⟨s0, s1, s2⟩
       ·by_cases hz : 4095 < dat.size
        ·have hz' : (4095 : Int) < (dat.size : Int) := by omega
         have HE : Hid (R = 18) := Lib.hid (HS4.trans (by rw [if_neg (by simp), if_pos (.inr ⟨rfl, hz⟩)]))
         clear HS4 hz hz2
         (go_enter Tryz.func26, Tryz.ntmps26; go_wp2_with (first | (go_at_call 43; go_loud (refine (HP.out _).mono ?_); rintro e w1 ⟨rfl, hk1⟩; have hb := HI.out.on hk1; have b0 := hb.cell 0 _ rfl; have b1 := hb.cell 1 _ rfl; have b2 := hb.cell 2 _ rfl; have b3 := hb.cell 3 _ rfl; have b4 := hb.cell 4 _ rfl; have bl := hb.lt) | (go_at_call 44; go_loud (refine (HR.out _).mono ?_); rintro e w2 ⟨rfl, rfl⟩)); go_ret; rw [HE.out]; exact ⟨rfl, HK.out.trans hk1⟩)
        ·have hz' : ¬ (4095 : Int) < (dat.size : Int) := by omega
         have HE : Hid (R = if rb = false then 11 else 0) := Lib.hid (HS4.trans (by rw [if_neg (by simp), if_neg (by simpa using hz)]; simp))
         clear HS4 hz hz2
         cases rb
         ·have HE : Hid (R = 11) := HE
          (go_enter Tryz.func26, Tryz.ntmps26; go_wp2_with (first | (go_at_call 43; go_loud (refine (HP.out _).mono ?_); rintro e w1 ⟨rfl, hk1⟩; have hb := HI.out.on hk1; have b0 := hb.cell 0 _ rfl; have b1 := hb.cell 1 _ rfl; have b2 := hb.cell 2 _ rfl; have b3 := hb.cell 3 _ rfl; have b4 := hb.cell 4 _ rfl; have bl := hb.lt) | (go_at_call 44; go_loud (refine (HR.out _).mono ?_); rintro e w2 ⟨rfl, rfl⟩)); go_ret; rw [HE.out]; exact ⟨rfl, HK.out.trans hk1⟩)
         ·have HE : Hid (R = 0) := HE
          (go_enter Tryz.func26, Tryz.ntmps26; go_wp2_with (first | (go_at_call 43; go_loud (refine (HP.out _).mono ?_); rintro e w1 ⟨rfl, hk1⟩; have hb := HI.out.on hk1; have b0 := hb.cell 0 _ rfl; have b1 := hb.cell 1 _ rfl; have b2 := hb.cell 2 _ rfl; have b3 := hb.cell 3 _ rfl; have b4 := hb.cell 4 _ rfl; have bl := hb.lt) | (go_at_call 44; go_loud (refine (HR.out _).mono ?_); rintro e w2 ⟨rfl, rfl⟩)); go_ret; rw [HE.out]; exact ⟨rfl, HK.out.trans hk1⟩)
       ·have HE : Hid (R = 43) := Lib.hid (HS4.trans (if_pos (.inr ⟨by decide, s0⟩)))
        clear HS4 s0
        (go_enter Tryz.func26, Tryz.ntmps26; go_wp2_with (first | (go_at_call 43; go_loud (refine (HP.out _).mono ?_); rintro e w1 ⟨rfl, hk1⟩; have hb := HI.out.on hk1; have b0 := hb.cell 0 _ rfl; have b1 := hb.cell 1 _ rfl; have b2 := hb.cell 2 _ rfl; have b3 := hb.cell 3 _ rfl; have b4 := hb.cell 4 _ rfl; have bl := hb.lt) | (go_at_call 44; go_loud (refine (HR.out _).mono ?_); rintro e w2 ⟨rfl, rfl⟩)); go_ret; rw [HE.out]; exact ⟨rfl, HK.out.trans hk1⟩)
      ·have HE : Hid (R = 10) := Lib.hid (HS3.out.trans (if_pos (.inr ⟨rfl, h5⟩)))
       have h5' : (mode != 511) = true := by simpa using h5
       clear HS3 hm h5 hd hsm
       (go_enter Tryz.func26, Tryz.ntmps26; go_wp2_with (first | (go_at_call 43; go_loud (refine (HP.out _).mono ?_); rintro e w1 ⟨rfl, hk1⟩; have hb := HI.out.on hk1; have b0 := hb.cell 0 _ rfl; have b1 := hb.cell 1 _ rfl; have b2 := hb.cell 2 _ rfl; have b3 := hb.cell 3 _ rfl; have b4 := hb.cell 4 _ rfl; have bl := hb.lt) | (go_at_call 44; go_loud (refine (HR.out _).mono ?_); rintro e w2 ⟨rfl, rfl⟩)); go_ret; rw [HE.out]; exact ⟨rfl, HK.out.trans hk1⟩)
theorem SlAt.head {α : Type} {E : Enc α} {S : Nat -> Prop} {w : World} {p : Option Addr} {c : Nat} {l : List α} (h : SlAt E S w p c l) (k : Nat) (hk : k <= l.length) : SlAt E S w p c (l.take k) := by
 refine ⟨by rw [List.length_take]; have := h.cap; omega, h.max, h.nilc, h.spot, fun h0 => ?_⟩
 rw [List.length_take, Nat.min_eq_left hk] at h0
 obtain ⟨g, off, hp, hS, hg, hc⟩ := h.cells (by omega)
 refine ⟨g, off, hp, hS, hg, fun j hj => ?_⟩
 rw [List.length_take, Nat.min_eq_left hk] at hj
 have hkl : k * E.k <= l.length * E.k := Nat.mul_le_mul_right _ hk
 rw [hc j (by omega)]
 rw [E.flat_take, List.getElem?_take, if_pos hj]
theorem fnd_both (pre : List Itm) (s : ByteArray) : (fndN pre s = none ∧ fndI pre s = none) ∨ ∃ n y, fndN pre s = some n ∧ fndI pre s = some y ∧ pre[n]? = some y ∧ n < pre.length := by
 unfold fndN fndI
 rcases h : pre.findIdx? (fun y => decide (y.p = s)) with _ | n
 ·refine .inl ⟨h, ?_⟩
  rw [List.findIdx?_eq_none_iff] at h
  exact List.find?_eq_none.2 fun x hx => by rw [h x hx]; simp
 ·obtain ⟨h1, h2, h3⟩ := List.findIdx?_eq_some_iff_getElem.1 h
  refine .inr ⟨n, pre[n], h, ?_, List.getElem?_eq_getElem h1, h1⟩
  rw [List.find?_eq_some_iff_getElem]
  exact ⟨h2, n, h1, rfl, fun j hj => by simpa using h3 j hj⟩
theorem getLast_take {l : List Itm} {j : Nat} {y : Itm} (h : l[j]? = some y) : (l.take (j + 1)).getLast? = some y := by
 rw [List.take_add_one, h, List.getLast?_append]
 rfl
theorem refCheck_any (l : List Itm) (hl : ∀ i ∈ l, i.p.size <= 1000000 ∧ i.dat.size <= 1000000) (w : World) {S : Nat -> Prop} {p : Option Addr} {cp : Nat} (hS : SlAt encItm S w p cp l) :
 Calls Tryz.prog 11 #[.slice p l.length cp] w fun e w' => e = .returned (.tuple #[.int .i64 (ckE l).1, .int .i64 (ckE l).2]) ∧ Keeps NoB w w' := by
 rw [ckE_ref]
 have hcap := hS.cap
 have hmax := hS.max
 unfold maxLen at hmax
 have HS := Lib.hid hS
 have HL := Lib.hid hl
 clear hl hS
 by_cases h0 : l.length = 0
 ·rw [if_pos h0]
  go_enter Tryz.func11, Tryz.ntmps11
  go_wp2
  go_ret2
  exact ⟨rfl, Keeps.refl _ _⟩
 ·rw [if_neg h0]
  have h0' : ¬ (l.length : Int) = 0 := by omega
  by_cases h9 : 4096 < l.length
  ·rw [if_pos h9]
   have h9' : (4096 : Int) < (l.length : Int) := by omega
   go_enter Tryz.func11, Tryz.ntmps11
   go_wp2
   go_ret2
   exact ⟨rfl, Keeps.refl _ _⟩
  ·rw [if_neg h9]
   have h9' : ¬ (4096 : Int) < (l.length : Int) := by omega
   have hl2 : (l.length : Int) <= 4096 := by omega
   obtain ⟨R, hR⟩ : ∃ R, refGo [] 0 l = R := ⟨_, rfl⟩
   rw [hR]
   have HR := Lib.hid hR
   clear hR h0 h9
   go_enter Tryz.func11, Tryz.ntmps11
   go_upto_region 6 with fail
   go_loopw [4] (fun i wr => ∃ n : Nat, n <= l.length ∧ i = .int .i64 n ∧ Keeps NoB w wr ∧ Hid (R = refGo (l.take n) n (l.drop n))) (fun i _ => l.length + 1 - (intOf i).toNat)
   case atStart => exact ⟨0, Nat.zero_le _, rfl, Keeps.refl _ _, Lib.hid HR.out.symm⟩
   case round =>
    rename World => wr
    obtain ⟨n, hn, rfl, hkr, hR⟩ := hrel
    have HKr := Lib.hid hkr
    by_cases hlt : n < l.length
    ·obtain ⟨x, hx⟩ : ∃ x, l[n]? = some x := ⟨_, List.getElem?_eq_getElem hlt⟩
     have hR2 := hR.out
     rw [List.drop_eq_getElem_cons hlt, show l[n] = x from Option.some.inj ((List.getElem?_eq_getElem hlt).symm.trans hx)] at hR2
     have hR3 : R = if refAdd (l.take n) x ≠ 0 then (refAdd (l.take n) x, (n : Int)) else refGo (l.take n ++ [x]) (n + 1) (l.drop (n + 1)) := hR2
     rw [show l.take n ++ [x] = l.take (n + 1) by rw [List.take_add_one, hx]; rfl] at hR3
     obtain ⟨g, o, rfl, _, hgl, c0, c1, c2, c3, c4⟩ := HS.out.itm hx
     have hkc : ∀ (j : Nat) v, w.cell? ⟨g, j, none⟩ = some v -> wr.cell? ⟨g, j, none⟩ = some v := fun j v h => (hkr.cell (p := ⟨g, j, none⟩) hgl (fun h => h)).trans h
     have d0 := hkc _ _ c0
     have d1 := hkc _ _ c1
     have d2 := hkc _ _ c2
     have d3 := hkc _ _ c3
     have d4 := hkc _ _ c4
     have dl := lt_of_cell d0
     obtain ⟨hx6, hx7⟩ := HL.out x (List.mem_of_getElem? hx)
     have HAl := Lib.hid (fun w1 : World => refAlone_any x hx6 hx7 w1)
     have HUp := Lib.hid (fun w1 : World => (refUp_any x.p hx6 w1).mono (fun e w' h => (⟨h.1, by rw [<- h.2]; exact Keeps.refl _ _⟩ : e = .returned (.string (upR x.p)) ∧ Keeps NoB w1 w')))
     have hpl : shpE x = 0 -> True := fun _ => trivial
     have HRA : Hid (refAdd (l.take n) x = if shpE x ≠ 0 then shpE x
      else if (match (l.take n).getLast? with | some y => bLt y.p x.p | none => true) = false then 13
      else if upR x.p ≠ ⟨#[]⟩ ∧ (match fndI (l.take n) (upR x.p) with | none => true | some y => decide (y.kind ≠ 2)) = true then 14
      else if x.same ≠ ⟨#[]⟩ ∧ (match fndI (l.take n) x.same with | none => true | some y => decide (y.kind ≠ 1 ∨ y.same ≠ ⟨#[]⟩ ∨ y.mode ≠ x.mode ∨ x.dat ≠ ⟨#[]⟩)) = true then 22
      else 0) := Lib.hid rfl
     have HR3 := Lib.hid hR3
     have HX := Lib.hid hx
     generalize refAdd (l.take n) x = E at *
     generalize shpE x = sh at *
     obtain ⟨u, hu⟩ : ∃ u, upR x.p = u := ⟨_, rfl⟩
     rw [hu] at HUp HRA
     obtain ⟨xp, xk, xm, xd, xs⟩ := x
     simp only at d0 d1 d2 d3 d4 HUp HRA
     have HAl : Hid (∀ w1 : World, Calls Tryz.prog 26 #[.agg #[.string xp, .int .i64 xk, .int .i64 xm, .string xd, .string xs]] w1 fun e w' => e = .returned (.int .i64 sh) ∧ Keeps NoB w1 w') := HAl
     have hka : Keeps NoB wr (wr.alloc (.cells #[.string xp, .int .i64 xk, .int .i64 xm, .string xd, .string xs] 52)) := (Keeps.refl _ _).alloc _
     have HI := Lib.hid (Bk.new (Keeps.refl NoB (wr.alloc (.cells #[.string xp, .int .i64 xk, .int .i64 xm, .string xd, .string xs] 52))))
     have HKa := Lib.hid (hkr.trans hka)
     clear c0 c1 c2 c3 c4 hR hR2 hR3 hx hu hx6 hx7 hpl hka hkr hkc
     by_cases hsh : sh = 0
     ·subst hsh
      have HRA2 := Lib.hid (HRA.out.trans (if_neg (by simp)))
      clear HRA
      go_upto_region 12 with ((go_at_call 26; go_loud (refine (HAl.out _).mono ?_); rintro e w1 ⟨rfl, hk1⟩; have HK1 := Lib.hid hk1; clear hk1))
      have HK2 := Lib.hid (HKa.out.trans HK1.out)
      have hb1 := HI.out.on HK1.out
      have HB1 := Lib.hid hb1
      have HS1 := Lib.hid (HS.out.keepN HK2.out)
      have i0 := hb1.cell 0 _ rfl
      have i1 := hb1.cell 1 _ rfl
      have i2 := hb1.cell 2 _ rfl
      have i3 := hb1.cell 3 _ rfl
      have i4 := hb1.cell 4 _ rfl
      have il := hb1.lt
      clear hb1 d0 d1 d2 d3 d4 dl
      have hgl1 : g < w1.heap.size := Nat.lt_of_lt_of_le hgl HK2.out.size
      have hcase : ((n = 0 ∧ ¬ (0 : Int) < (n : Int)) ∧ (l.take n).getLast? = none) ∨ ∃ (m : Nat) (y : Itm), ((n = m + 1 ∧ (0 : Int) < (n : Int)) ∧ ((n : Int) - 1 = (m : Int) ∧ (m : Int) < (l.length : Int))) ∧ l[m]? = some y ∧ (l.take n).getLast? = some y := by
       rcases n with _ | m
       ·exact .inl ⟨⟨rfl, by omega⟩, rfl⟩
       ·obtain ⟨y, hy⟩ : ∃ y, l[m]? = some y := ⟨_, List.getElem?_eq_getElem (by omega)⟩
        exact .inr ⟨m, y, ⟨⟨rfl, by omega⟩, by omega, by omega⟩, hy, getLast_take hy⟩
      have hpre : (∃ (m : Nat) (y : Itm), ((0 : Int) < (n : Int) ∧ (n : Int) - 1 = (m : Int) ∧ (m : Int) < (l.length : Int)) ∧ l[m]? = some y ∧ (l.take n).getLast? = some y ∧ bLt y.p xp = false) ∨
       ((¬ (0 : Int) < (n : Int)) ∧ Hid ((match (l.take n).getLast? with | some y => bLt y.p xp | none => true) = true)) ∨
       (∃ (m : Nat) (y : Itm), ((0 : Int) < (n : Int) ∧ (n : Int) - 1 = (m : Int) ∧ (m : Int) < (l.length : Int)) ∧ l[m]? = some y ∧ bLt y.p xp = true ∧ Hid ((match (l.take n).getLast? with | some y => bLt y.p xp | none => true) = true)) := by
       rcases hcase with ⟨⟨_, h1⟩, h2⟩ | ⟨m, y, ⟨⟨_, h1⟩, h2, h3⟩, h4, h5⟩
       ·exact .inr (.inl ⟨h1, Lib.hid (by rw [h2])⟩)
       ·rcases hb : bLt y.p xp with _ | _
        ·exact .inl ⟨m, y, ⟨h1, h2, h3⟩, h4, h5, hb⟩
        ·exact .inr (.inr ⟨m, y, ⟨h1, h2, h3⟩, h4, hb, Lib.hid (by rw [h5]; exact hb)⟩)
      clear hcase
      have hn4 : (n : Int) <= 4096 := by omega
      rcases hpre with ⟨m, y, ⟨g1, g2, g3⟩, hy, hgl5, hbl⟩ | hgood
      ·have HE : Hid (R = (13, (n : Int))) := Lib.hid (by
        have hE : E = 13 := HRA2.out.trans (if_pos (by rw [hgl5]; exact hbl))
        rw [HR3.out, hE, if_pos (by decide)])
       have hle : (Op.bytesLess xp.toList y.p.toList = true) ∨ (Op.bytesLess xp.toList y.p.toList = false ∧ (xp.toList == y.p.toList) = true) := by
        rw [less_eq]
        rcases h : bLt xp y.p with _ | _
        ·exact .inr ⟨rfl, by rw [bLt_total h hbl]; simp⟩
        ·exact .inl rfl
       obtain ⟨g', o', he', _, _, y0, _⟩ := HS1.out.itm hy
       cases he'
       obtain ⟨yp, yk, ym, yd, ys⟩ := y
       simp only at y0 hle
       clear hgl5 hbl hy HR3 HRA2
       have gb : decide (0 < n) = true := decide_eq_true (by omega)
       rcases hle with hle | ⟨hle, hle2⟩
       all_goals
        go_quiet (fail)
        go_wp2
        go_ret2
        rw [HE.out]
        exact ⟨rfl, HK2.out.drewN _⟩
      ·have HRA3 : Hid (E = if u ≠ ⟨#[]⟩ ∧ (match fndI (l.take n) u with | none => true | some y => decide (y.kind ≠ 2)) = true then 14
        else if xs ≠ ⟨#[]⟩ ∧ (match fndI (l.take n) xs with | none => true | some y => decide (y.kind ≠ 1 ∨ y.same ≠ ⟨#[]⟩ ∨ y.mode ≠ xm ∨ xd ≠ ⟨#[]⟩)) = true then 22 else 0) := Lib.hid (by
        rcases hgood with ⟨_, hok⟩ | ⟨_, _, _, _, _, hok⟩
        ·exact HRA2.out.trans (if_neg (by rw [hok.out]; decide))
        ·exact HRA2.out.trans (if_neg (by rw [hok.out]; decide)))
       have htl : (l.take n).length = n := by rw [List.length_take]; omega
       have hsl := fun wx => run_slice_h (P := Tryz.prog) 27 52 Tryz.underlying27 (by kernel_rfl) g o l.length cp n (by omega) wx (by omega)
       have HF := Lib.hid (fun (s : ByteArray) (wx : World) (hk : Keeps NoB w wx) => refFind_any (l.take n) s wx ((HS.out.keepN hk).head n hn))
       rw [htl] at HF
       have HTl := Lib.hid htl
       clear HRA2 htl
       go_cut [44] from 32 to 44 (fun b wx => b = .bool false ∧ Keeps NoB w1 wx)
       case first =>
        rcases hgood with ⟨g1, hok⟩ | ⟨m, y, ⟨g1, g2, g3⟩, hy, hbl, hok⟩ <;> clear hok
        ·have gb : decide (0 < n) = false := decide_eq_false (by omega)
         go_quiet (fail)
         go_wp2_with fail
         go_meet
         exact ⟨rfl, (Keeps.refl _ _).drewN _⟩
        ·obtain ⟨g', o', he', _, _, y0, _⟩ := HS1.out.itm hy
         cases he'
         obtain ⟨yp, yk, ym, yd, ys⟩ := y
         have hle : Op.bytesLess xp.toList yp.toList = false := by rw [less_eq]; exact bLt_asymm hbl
         have hle2 : (xp.toList == yp.toList) = false := by
          rw [str_eq, decide_eq_false_iff_not]
          intro h
          rw [h] at hbl
          have hbl' : bLt yp yp = true := hbl
          rw [bLt_irrefl] at hbl'
          cases hbl'
         simp only at y0
         have gb : decide (0 < n) = true := decide_eq_true (by omega)
         clear hy hbl
         go_quiet (fail)
         go_wp2_with fail
         go_meet
         exact ⟨rfl, (Keeps.refl _ _).drewN _⟩
       case rest =>
        obtain ⟨rfl, hkc⟩ := hcut
        have HKc := Lib.hid (HK2.out.trans hkc)
        have HBc := Lib.hid (HB1.out.on hkc)
        clear hgood HK1 HB1 HS1 HK2 hkc i0 i1 i2 i3 i4 il hgl1
        have i0 := HBc.out.cell 0 _ rfl
        have il := HBc.out.lt
        obtain ⟨bu, hbu⟩ : ∃ bu, (!u.toList.isEmpty) = bu := ⟨_, rfl⟩
        go_upto_if 50 with ((go_at_call 27; go_loud (refine (HUp.out _).mono ?_); rintro e w5 ⟨rfl, hk5⟩; have HK5 := Lib.hid (HKc.out.trans hk5); have HB5 := Lib.hid (HBc.out.on hk5)))
        clear hk5
        clear i0 il
        have i0 := HB5.out.cell 0 _ rfl
        have i1 := HB5.out.cell 1 _ rfl
        have i2 := HB5.out.cell 2 _ rfl
        have i3 := HB5.out.cell 3 _ rfl
        have i4 := HB5.out.cell 4 _ rfl
        have il := HB5.out.lt
        have HFu := Lib.hid (HF.out u w5 HK5.out)
        have HS5 := Lib.hid (HS.out.keepN HK5.out)
        have hdec : (u ≠ ⟨#[]⟩ ∧ Hid (E = 14) ∧ fndN (l.take n) u = none) ∨ (∃ (j : Nat) (yp : ByteArray) (yk ym : Int) (yd ys : ByteArray), u ≠ ⟨#[]⟩ ∧ Hid (E = 14) ∧ fndN (l.take n) u = some j ∧ Hid (l[j]? = some ⟨yp, yk, ym, yd, ys⟩) ∧ (j : Int) < (l.length : Int) ∧ (yk != 2) = true) ∨
         (u = ⟨#[]⟩ ∧ Hid (E = if xs ≠ ⟨#[]⟩ ∧ (match fndI (l.take n) xs with | none => true | some y => decide (y.kind ≠ 1 ∨ y.same ≠ ⟨#[]⟩ ∨ y.mode ≠ xm ∨ xd ≠ ⟨#[]⟩)) = true then 22 else 0)) ∨
         (∃ (j : Nat) (yp : ByteArray) (ym : Int) (yd ys : ByteArray), u ≠ ⟨#[]⟩ ∧ fndN (l.take n) u = some j ∧ Hid (l[j]? = some ⟨yp, 2, ym, yd, ys⟩) ∧ (j : Int) < (l.length : Int) ∧ Hid (E = if xs ≠ ⟨#[]⟩ ∧ (match fndI (l.take n) xs with | none => true | some y => decide (y.kind ≠ 1 ∨ y.same ≠ ⟨#[]⟩ ∨ y.mode ≠ xm ∨ xd ≠ ⟨#[]⟩)) = true then 22 else 0)) := by
         by_cases hu : u = ⟨#[]⟩
         ·exact .inr (.inr (.inl ⟨hu, Lib.hid (HRA3.out.trans (if_neg (fun e => e.1 hu)))⟩))
         ·rcases fnd_both (l.take n) u with ⟨f1, f2⟩ | ⟨j, y, f1, f2, f3, f4⟩
          ·exact .inl ⟨hu, Lib.hid (HRA3.out.trans (if_pos ⟨hu, by rw [f2]⟩)), f1⟩
          ·have hjl : j < n := by rw [HTl.out] at f4; exact f4
           have hlj : l[j]? = some y := by rw [List.getElem?_take, if_pos hjl] at f3; exact f3
           obtain ⟨yp, yk, ym, yd, ys⟩ := y
           by_cases hk : yk = 2
           ·subst hk
            exact .inr (.inr (.inr ⟨j, yp, ym, yd, ys, hu, f1, Lib.hid hlj, by omega, Lib.hid (HRA3.out.trans (if_neg (fun e => by have := e.2; rw [f2] at this; simp at this)))⟩))
           ·exact .inr (.inl ⟨j, yp, yk, ym, yd, ys, hu, Lib.hid (HRA3.out.trans (if_pos ⟨hu, by rw [f2]; simpa using hk⟩)), f1, Lib.hid hlj, by omega, by simpa using hk⟩)
        clear HRA3
        go_cut [8] from 51 to 66 (fun _ wx => Keeps NoB w wx ∧ Bk wx wr.heap.size [.string xp, .int .i64 xk, .int .i64 xm, .string xd, .string xs] ∧ Hid (E = if xs ≠ ⟨#[]⟩ ∧ (match fndI (l.take n) xs with | none => true | some y => decide (y.kind ≠ 1 ∨ y.same ≠ ⟨#[]⟩ ∨ y.mode ≠ xm ∨ xd ≠ ⟨#[]⟩)) = true then 22 else 0))
        case first =>
         rcases hdec with ⟨hu, hE, f1⟩ | ⟨j, yp, yk, ym, yd, ys, hu, hE, f1, f3, hj, hk⟩ | ⟨hu, hE⟩ | ⟨j, yp, ym, yd, ys, hu, f1, f3, hj, hE⟩
         ·have HE : Hid (R = (14, (n : Int))) := Lib.hid (by rw [HR3.out, hE.out, if_pos (by decide)])
          have hun := notEmpty_eq hu
          obtain rfl : true = bu := hun.symm.trans hbu
          rw [f1] at HFu
          clear hu HR3 hE hbu
          go_wp2_with ((go_at_call 28; go_loud (refine HFu.out.mono ?_); rintro e w6 ⟨rfl, rfl⟩))
          go_ret2
          rw [HE.out]
          exact ⟨rfl, HK5.out⟩
         ·have HE : Hid (R = (14, (n : Int))) := Lib.hid (by rw [HR3.out, hE.out, if_pos (by decide)])
          have hun := notEmpty_eq hu
          obtain rfl : true = bu := hun.symm.trans hbu
          rw [f1] at HFu
          obtain ⟨g', o', he', _, hg', _, y1, _⟩ := HS5.out.itm f3.out
          cases he'
          simp only at y1
          clear hu HR3 hE hbu
          go_wp2_with ((go_at_call 28; go_loud (refine HFu.out.mono ?_); rintro e w6 ⟨rfl, rfl⟩))
          go_ret2
          rw [HE.out]
          exact ⟨rfl, HK5.out⟩
         ·subst hu
          obtain rfl : false = bu := by rw [<- hbu, empty_size]; rfl
          go_wp2
          go_meet
          exact ⟨HK5.out, HB5.out, hE⟩
         ·have hun := notEmpty_eq hu
          obtain rfl : true = bu := hun.symm.trans hbu
          rw [f1] at HFu
          obtain ⟨g', o', he', _, hg', _, y1, _⟩ := HS5.out.itm f3.out
          cases he'
          simp only at y1
          clear hu hbu
          go_wp2_with ((go_at_call 28; go_loud (refine HFu.out.mono ?_); rintro e w6 ⟨rfl, rfl⟩))
          go_meet
          exact ⟨HK5.out, HB5.out, hE⟩
        case rest =>
         obtain ⟨hk8, hb8, hE⟩ := hcut
         have HK8 := Lib.hid hk8
         have HB8 := Lib.hid hb8
         have HS8 := Lib.hid (HS.out.keepN hk8)
         clear hdec hbu HK5 HB5 HS5 HKc HBc i0 i1 i2 i3 i4 il hk8 hb8
         rename World => w8
         have i4 := HB8.out.cell 4 _ rfl
         have il := HB8.out.lt
         clear HFu
         have hdec2 : (xs = ⟨#[]⟩ ∧ Hid (E = 0)) ∨ (xs ≠ ⟨#[]⟩ ∧ Hid (E = 22) ∧ fndN (l.take n) xs = none) ∨
          (∃ (j : Nat) (yp : ByteArray) (yk ym : Int) (yd ys : ByteArray), xs ≠ ⟨#[]⟩ ∧ fndN (l.take n) xs = some j ∧ Hid (l[j]? = some ⟨yp, yk, ym, yd, ys⟩) ∧ (j : Int) < (l.length : Int) ∧
            ((Hid (E = 22) ∧ ((yk != 1) = true ∨ ((yk != 1) = false ∧ (ys.toList.isEmpty = false ∧ (!ys.toList.isEmpty) = true)) ∨ ((yk != 1) = false ∧ ys = ⟨#[]⟩ ∧ (ym != xm) = true) ∨ ((yk != 1) = false ∧ ys = ⟨#[]⟩ ∧ (ym != xm) = false ∧ (xd.toList.isEmpty = false ∧ (!xd.toList.isEmpty) = true)))) ∨
              (Hid (E = 0) ∧ (yk != 1) = false ∧ ys = ⟨#[]⟩ ∧ (ym != xm) = false ∧ xd = ⟨#[]⟩))) := by
          by_cases hs : xs = ⟨#[]⟩
          ·exact .inl ⟨hs, Lib.hid (hE.out.trans (if_neg (fun e => e.1 hs)))⟩
          ·rcases fnd_both (l.take n) xs with ⟨f1, f2⟩ | ⟨j, y, f1, f2, f3, f4⟩
           ·exact .inr (.inl ⟨hs, Lib.hid (hE.out.trans (if_pos ⟨hs, by rw [f2]⟩)), f1⟩)
           ·have hjl : j < n := by rw [HTl.out] at f4; exact f4
            have hlj : l[j]? = some y := by rw [List.getElem?_take, if_pos hjl] at f3; exact f3
            obtain ⟨yp, yk, ym, yd, ys⟩ := y
            have hE2 := hE.out
            rw [f2] at hE2
            simp only at hE2
            refine .inr (.inr ⟨j, yp, yk, ym, yd, ys, hs, f1, Lib.hid hlj, by omega, ?_⟩)
            by_cases k1 : yk = 1
            ·have kb : (yk != 1) = false := by simp [k1]
             by_cases k2 : ys = ⟨#[]⟩
             ·by_cases k3 : ym = xm
              ·have mb : (ym != xm) = false := by simp [k3]
               by_cases k4 : xd = ⟨#[]⟩
               ·exact .inr ⟨Lib.hid (hE2.trans (if_neg (fun e => by have := of_decide_eq_true e.2; rcases this with h | h | h | h; exact h k1; exact h k2; exact h k3; exact h k4))), kb, k2, mb, k4⟩
               ·exact .inl ⟨Lib.hid (hE2.trans (if_pos ⟨hs, decide_eq_true (.inr (.inr (.inr k4)))⟩)), .inr (.inr (.inr ⟨kb, k2, mb, by simpa using notEmpty_eq k4, notEmpty_eq k4⟩))⟩
              ·exact .inl ⟨Lib.hid (hE2.trans (if_pos ⟨hs, decide_eq_true (.inr (.inr (.inl k3)))⟩)), .inr (.inr (.inl ⟨kb, k2, by simpa using k3⟩))⟩
             ·exact .inl ⟨Lib.hid (hE2.trans (if_pos ⟨hs, decide_eq_true (.inr (.inl k2))⟩)), .inr (.inl ⟨kb, by simpa using notEmpty_eq k2, notEmpty_eq k2⟩)⟩
            ·exact .inl ⟨Lib.hid (hE2.trans (if_pos ⟨hs, decide_eq_true (.inl k1)⟩)), .inl (by simpa using k1)⟩
         clear hE
         rcases hdec2 with ⟨hs, hE⟩ | ⟨hs, hE, f1⟩ | ⟨j2, zp, zk, zm, zd, zs, hs, f1, f3, hj2, hrest⟩
         ·subst hs
          have HN : Hid (R = refGo (l.take (n + 1)) (n + 1) (l.drop (n + 1))) := Lib.hid (by rw [HR3.out, hE.out, if_neg (by simp)])
          clear HR3 hE
          go_wp2
          go_roundw
          case rel => exact ⟨n + 1, by omega, by go_num, HK8.out, HN.out⟩
          case measure => (simp [intOf]) <;> omega
         ·have HE : Hid (R = (22, (n : Int))) := Lib.hid (by rw [HR3.out, hE.out, if_pos (by decide)])
          have hun2 := notEmpty_eq hs
          have hue2 : xs.toList.isEmpty = false := by simpa using hun2
          clear hs HR3 hE
          (go_upto_region 20 with fail); (go_still_tail 5, (by kernel_rfl)); (change wpList _ _ _ _ _ w8.drew); (have kd : Keeps NoB w8 w8.drew := (Keeps.refl _ _).drew); (have HK7 := Lib.hid (HK8.out.trans kd)); (have hb7 := HB8.out.on kd); (have HS7 := Lib.hid (HS8.out.keepN kd)); (have HFs := Lib.hid (HF.out xs w8.drew HK7.out)); (clear kd i4 il); (generalize w8.drew = w7 at *); (have i0 := hb7.cell 0 _ rfl); (have i1 := hb7.cell 1 _ rfl); (have i2 := hb7.cell 2 _ rfl); (have i3 := hb7.cell 3 _ rfl); (have i4 := hb7.cell 4 _ rfl); (have il := hb7.lt); clear hb7
          rw [f1] at HFs
          go_upto_region 21 with ((go_at_call 28; go_loud (refine HFs.out.mono ?_); rintro e w6 ⟨rfl, rfl⟩))
          go_quiet (fail)
          go_wp2
          go_ret2
          rw [HE.out]
          exact ⟨rfl, HK7.out.drewN _⟩
         ·have hun2 := notEmpty_eq hs
          have hue2 : xs.toList.isEmpty = false := by simpa using hun2
          clear hs
          (go_upto_region 20 with fail); (go_still_tail 5, (by kernel_rfl)); (change wpList _ _ _ _ _ w8.drew); (have kd : Keeps NoB w8 w8.drew := (Keeps.refl _ _).drew); (have HK7 := Lib.hid (HK8.out.trans kd)); (have hb7 := HB8.out.on kd); (have HS7 := Lib.hid (HS8.out.keepN kd)); (have HFs := Lib.hid (HF.out xs w8.drew HK7.out)); (clear kd i4 il); (generalize w8.drew = w7 at *); (have i0 := hb7.cell 0 _ rfl); (have i1 := hb7.cell 1 _ rfl); (have i2 := hb7.cell 2 _ rfl); (have i3 := hb7.cell 3 _ rfl); (have i4 := hb7.cell 4 _ rfl); (have il := hb7.lt); clear hb7
          rw [f1] at HFs
          obtain ⟨g', o', he', _, hg7, z0, z1, z2, z3, z4⟩ := HS7.out.itm f3.out
          cases he'
          simp only at z0 z1 z2 z3 z4
          have hj0 : decide ((j2 : Int) < 0) = false := decide_eq_false (by omega)
          go_upto_region 21 with ((go_at_call 28; go_loud (refine HFs.out.mono ?_); rintro e w6 ⟨rfl, rfl⟩))
          rcases hrest with ⟨hE, hbad⟩ | ⟨hE, q1, rfl, q3, rfl⟩
          ·have HE : Hid (R = (22, (n : Int))) := Lib.hid (by rw [HR3.out, hE.out, if_pos (by decide)])
           clear HR3 hE
           rcases hbad with q1 | ⟨q1, q2, q2'⟩ | ⟨q1, rfl, q3⟩ | ⟨q1, rfl, q3, q4, q4'⟩
           all_goals
            go_big_region
            all_goals
             go_wp2
             go_ret2
             rw [HE.out]
             exact ⟨rfl, HK7.out.drew⟩
          ·have HN : Hid (R = refGo (l.take (n + 1)) (n + 1) (l.drop (n + 1))) := Lib.hid (by rw [HR3.out, hE.out, if_neg (by simp)])
           clear HR3 hE
           go_big_region
           all_goals
            go_wp2
            go_roundw
            case rel => exact ⟨n + 1, by omega, by go_num, HK7.out.drew, HN.out⟩
            case measure => (simp [intOf]) <;> omega
     ·have HE : Hid (R = (sh, (n : Int))) := Lib.hid (by
       have hE : E = sh := HRA.out.trans (if_pos (by simpa using hsh))
       rw [HR3.out, hE, if_pos (by simpa using hsh)])
      have hsb : (sh != 0) = true := by simpa using hsh
      clear HR3 HRA hsh
      go_wp2_with ((go_at_call 26; go_loud (refine (HAl.out _).mono ?_); rintro e w1 ⟨rfl, hk1⟩; have HK1 := Lib.hid hk1; clear hk1))
      go_ret2
      rw [HE.out]
      exact ⟨rfl, HKa.out.trans HK1.out⟩
    ·obtain rfl : n = l.length := by omega
     have hR2 := hR.out
     rw [List.drop_of_length_le (Nat.le_refl _)] at hR2
     have HR2 : Hid (R = (0, 0)) := Lib.hid hR2
     clear hR hR2 hkr
     go_wp2
     go_ret2
     rw [HR2.out]
     exact ⟨rfl, HKr.out⟩
theorem bestP_fin {ws : List Int} {x : ByteArray} {cs : List Nat} (hcs : (ws.map fun y => costW y x) = cs) (h0 : 0 < ws.length) {j : Nat} {c : Nat} (hj : cs[j]? = some c) (hc : c < 9218868437227405312) : (bestP ws x).2 = 0 := by
 unfold bestP
 rw [hcs]
 have hlen : cs.length = ws.length := by rw [<- hcs, List.length_map]
 obtain ⟨b, hb⟩ := leastK_some cs ws.length h0
 rw [hb]
 obtain ⟨y, hy, hm⟩ := leastK_fin cs _ (Nat.le_of_eq hlen.symm) b hb
 have h4 := hm j c (by rw [<- hlen]; exact (List.getElem?_eq_some_iff.1 hj).1) hj
 have hyd : cs.getD b 0 = y := by simp [List.getD, hy]
 have h5 : cs.getD b 0 < 9218868437227405312 := by rw [hyd]; exact Nat.lt_of_le_of_lt h4 hc
 show (if cs.getD b 0 < 9218868437227405312 then (ws.getD b 0, (0 : Int)) else (0, 43)).2 = 0
 rw [if_pos h5]
theorem cost2_lt (x : ByteArray) (h1 : 1 <= x.size) (h2 : x.size <= 1000000) : costW 2 x < 9218868437227405312 := by
 have h := (quo_lt (uuSize x.size) x.size (uuSize_pos _) (by have := uuSize_le x.size; omega) h1 (by omega)).1
 unfold costW
 rw [if_neg (by decide), if_pos rfl]
 exact h
theorem map_three (f : Int -> Nat) : (([1, 2, 3] : List Int).map f)[1]? = some (f 2) := rfl
theorem best_all (x : ByteArray) (h1 : 1 <= x.size) (h2 : x.size <= 1000000) : (bestP [1, 2, 3] x).2 = 0 :=
 bestP_fin (ws := [1, 2, 3]) rfl (by decide) (map_three fun y => costW y x) (cost2_lt x h1 h2)
theorem fileE_all : ∀ l : List ByteArray, (∀ x ∈ l, 1 <= x.size ∧ x.size <= 20000) -> fileE [1, 2, 3] l = 0
 | [], _ => rfl
 | x :: l, h => by
   have hx := h x (List.mem_cons_self ..)
   unfold fileE
   rw [best_all x hx.1 (by omega), if_neg (by simp)]
   exact fileE_all l (fun y hy => h y (List.mem_cons_of_mem _ hy))
theorem firstE_all : ∀ ds : List ByteArray, firstE [1, 2, 3] ds = 0
 | [] => rfl
 | s :: r => by
   unfold firstE
   rw [fileE_all _ (cuts_ok s s.size (Nat.le_refl _)), if_neg (by simp)]
   exact firstE_all r
theorem partsD_mem (ws : List Int) : ∀ (ds : List ByteArray) (k : Nat) (y : Prt), y ∈ partsD ws k ds -> ∃ (k' : Nat) (s x : ByteArray), y = partP (k' : Int) ws x ∧ s ∈ ds ∧ x ∈ cuts s
 | [], _, _, h => by cases h
 | s :: r, k, y, h => by
   unfold partsD at h
   rcases List.mem_append.1 h with h | h
   ·obtain ⟨x, hx, rfl⟩ := List.mem_map.1 h
    exact ⟨k, s, x, rfl, List.mem_cons_self .., hx⟩
   ·obtain ⟨k', s', x, h1, h2, h3⟩ := partsD_mem ws r (k + 1) y h
    exact ⟨k', s', x, h1, List.mem_cons_of_mem _ h2, h3⟩
theorem partsD_len (ws : List Int) (N : Nat) : ∀ (ds : List ByteArray) (k : Nat), (∀ s ∈ ds, s.size <= N) -> (partsD ws k ds).length <= ds.length * N
 | [], _, _ => Nat.zero_le _
 | s :: r, k, h => by
   unfold partsD
   have h1 := partsD_len ws N r (k + 1) (fun x hx => h x (List.mem_cons_of_mem _ hx))
   have h2 := cuts_len s s.size (Nat.le_refl _)
   have h3 := h s (List.mem_cons_self ..)
   rw [List.length_append, List.length_map, List.length_cons, Nat.add_mul]
   omega
theorem datsP_mem {l : List Itm} {s : ByteArray} (h : s ∈ datsP l) : ∃ i ∈ l, s = i.dat := by
 unfold datsP at h
 obtain ⟨i, hi, rfl⟩ := List.mem_map.1 h
 obtain ⟨k, hk, e⟩ := List.mem_iff_getElem.1 hi
 obtain ⟨j, x, h1, h2, h3, _⟩ := ownN_at l l.length k i (by rw [List.getElem?_eq_getElem hk, e])
 refine ⟨x, List.mem_of_getElem? h2, ?_⟩
 unfold datI
 rw [h1, show ((j : Int)).toNat = j from rfl, h2]
theorem tell_le (way : Int) (x : ByteArray) (h1 : 1 <= x.size) : (tellB way x).size <= 4 * x.size + 41 := by
 have hl := len_data x
 unfold tellB
 split
 ·omega
 ·split
  ·show (encB x.data.toList).toArray.size <= _
   rw [List.size_toArray]
   unfold encB
   rw [List.length_append, uuRest_len, hl]
   unfold uuSize
   simp only [List.length_cons, List.length_nil]
   split <;> omega
  ·show (escL x.data.toList).toArray.size <= _
   rw [List.size_toArray]
   have := escL_le x.data.toList
   omega
def PartIs (y : Prt) : Prop :=
 ∃ x : ByteArray, 1 <= x.size ∧ x.size <= 20000 ∧ y.t.size <= 4 * x.size + 41 ∧ ∀ w, DbOk w -> Calls Tryz.prog 14 #[.agg #[.int .i64 y.f, .int .i64 y.way, .string y.t]] w fun e w' => e = .returned (.tuple #[.string x, .int .i64 0]) ∧ Keeps NoB w w'
theorem partIs_of {ws : List Int} {k : Int} {x : ByteArray} (h1 : 1 <= x.size) (h2 : x.size <= 20000) (hb : (bestP ws x).2 = 0) : PartIs (partP k ws x) := by
 have hway := bestP_way hb
 unfold partP
 generalize (bestP ws x).1 = way at *
 exact ⟨x, h1, h2, tell_le way x h1, fun w hd => partBytes_any k way x hway (by omega) w hd⟩
theorem partIs_all (ds : List ByteArray) : ∀ y ∈ partsD [1, 2, 3] 0 ds, PartIs y := fun y hy => by
 obtain ⟨k', s, x, hyx, _, hxc⟩ := partsD_mem [1, 2, 3] ds 0 y hy
 obtain ⟨hx1, hx2⟩ := cuts_ok s s.size (Nat.le_refl _) x hxc
 rw [hyx]
 exact partIs_of hx1 hx2 (best_all x hx1 (by omega))
theorem short26_any (l : List Itm) (hl : ∀ i ∈ l, i.p.size <= 140737488351232 ∧ i.dat.size <= 140737488351232 ∧ i.same.size <= 140737488351232) (w : World) {S : Nat -> Prop} {p : Option Addr} {cp : Nat} (hS : SlAt encItm S w p cp l) :
 Calls Tryz.prog 8 #[.slice p l.length cp] w fun e w' => e = .returned (.bool (shortB l 20 50000)) ∧ Keeps NoB w w' := by
 have HS := Lib.hid (short_any l 20 50000 (by decide) hl w hS)
 generalize shortB l 20 50000 = b at *
 clear hS hl
 go_enter Tryz.func8, Tryz.ntmps8
 go_wp2_with (go_at_call 23; go_loud (refine HS.out.mono ?_); rintro e w1 ⟨rfl, hk1⟩)
 go_ret
 exact ⟨rfl, hk1⟩
theorem make_ok (l : List Itm) (hl : ∀ i ∈ l, i.p.size <= 1000000 ∧ i.dat.size <= 500000) (ws : List Int) (hws : ws.length <= 1000) (hck : (ckE l).1 = 0) (hf : firstE (waysP ws) (datsP l) = 0) (w : World) {S1 S2 : Nat -> Prop} {p wp : Option Addr} {cp wc : Nat} (hS : SlAt encItm S1 w p cp l) (hW : SlAt encInt S2 w wp wc ws) :
 Calls Tryz.prog 10 #[.slice p l.length cp, .slice wp ws.length wc] w fun e w' => PlanTo w (partsD (waysP ws) 0 (datsP l)) e w' := by
 refine (make_any l hl ws hws w hS hW).mono ?_
 rintro e w' ⟨hk, hm⟩
 rw [if_neg (by rw [hck]; simp), if_neg (by rw [hf]; simp)] at hm
 obtain ⟨tv, fv, pv, rfl, ht, hf', hp⟩ := hm
 obtain ⟨tp, tc, rfl, _⟩ := ht.sl
 obtain ⟨fp, fc, rfl, _⟩ := hf'.sl
 obtain ⟨pp, pc, rfl, hps⟩ := hp.sl
 exact ⟨tp, _, tc, fp, _, fc, pp, pc, rfl, hps, hk⟩
theorem part_sz {x : ByteArray} (h1 : 1 <= x.size) (h2 : x.size <= 20000) : ¬ (20000 : Int) < (x.size : Int) ∧ ((x.size : Int) == 0) = false ∧ (x.size : Int) <= 20000 ∧ x.size <= 1000000 := by
 refine ⟨by omega, ?_, by omega, by omega⟩
 rw [beq_eq_false_iff_ne]
 omega
theorem idx_sz {k n : Nat} (h : k < n) (hn : n <= 1000000) : (k : Int) <= 1000000 ∧ (k : Int) < (n : Int) := by constructor <;> omega
theorem m_sz {m k : Nat} (h : (m : Int) <= 100000 * (k : Int)) (hk : (k : Int) <= 1000000) : (m : Int) <= 100000000000 := by omega
theorem next_sz {m k : Nat} {x : ByteArray} (h : (m : Int) <= 100000 * (k : Int)) (h2 : x.size <= 20000) : ((m + (4 * x.size + 41) : Nat) : Int) <= 100000 * ((k + 1 : Nat) : Int) := by omega
theorem small_any (l : List Itm) (hl : ∀ i ∈ l, i.p.size <= 140737488351232 ∧ i.dat.size <= 140737488351232 ∧ i.same.size <= 140737488351232) (w : World) (hdb : DbOk w) {S : Nat -> Prop} {p : Option Addr} {cp : Nat} (hS : SlAt encItm S w p cp l) :
 Calls Tryz.prog 5 #[.slice p l.length cp] w fun e w' => e = .returned (.bool true) ∧ Keeps NoB w w' := by
 have HA := Lib.hid (fun w1 : World => anchor26_any w1)
 have HSh := Lib.hid (fun (w1 : World) (hk : Keeps NoB w w1) => short26_any l hl w1 (hS.keepN hk))
 have HDb := Lib.hid hdb
 rcases hsh : shortB l 20 50000 with _ | _
 ·rw [hsh] at HSh
  clear hsh hl hS
  go_enter Tryz.func5, Tryz.ntmps5
  go_wp2_with (first | (go_at_call 7; go_loud (refine (HA.out _).mono ?_); rintro e w1 ⟨rfl, hk1⟩) | (go_at_call 8; go_loud (refine (HSh.out _ hk1).mono ?_); rintro e w2 ⟨rfl, hk2⟩))
  go_ret
  exact ⟨rfl, hk1.trans hk2⟩
 ·rw [hsh] at HSh
  unfold shortB at hsh
  simp only [Bool.and_eq_true, decide_eq_true_eq] at hsh
  obtain ⟨hsum, hlen⟩ := hsh
  have hsz : ∀ i ∈ l, i.p.size <= 50000 ∧ i.dat.size <= 50000 := fun i hi => by
   have := sumI_mem hi
   unfold szI at this
   omega
  have HIt := Lib.hid (fun (w1 : World) (hk : Keeps NoB w w1) => items_any l (by omega) w1 (hS.keepN hk))
  have HCk := Lib.hid (fun (w1 : World) {S2 : Nat -> Prop} {p2 : Option Addr} {c2 : Nat} (h2 : SlAt encItm S2 w1 p2 c2 l) => refCheck_any l (fun i hi => by have := hsz i hi; omega) w1 h2)
  by_cases hck : (ckE l).1 = 0
  ·have hff := firstE_all (datsP l)
   have HMk := Lib.hid (fun (w1 : World) (hk : Keeps NoB w w1) => make_ok l (fun i hi => by have := hsz i hi; omega) [] (by decide) hck hff w1 (hS.keepN hk) (S2 := fun _ => True) (wp := none) (wc := 0) ⟨Nat.zero_le _, by decide, fun _ => rfl, fun h => absurd h (by decide), fun h => absurd h (by decide)⟩)
   rw [show waysP [] = [1, 2, 3] from rfl] at HMk
   have hpl : (partsD [1, 2, 3] 0 (datsP l)).length <= 1000000 := by
    have h1 := partsD_len [1, 2, 3] 50000 (datsP l) 0 (fun s hs => by obtain ⟨i, hi, rfl⟩ := datsP_mem hs; exact (hsz i hi).2)
    have h2 : (datsP l).length <= l.length := by unfold datsP; rw [List.length_map]; exact ownN_len l _
    have h3 : (datsP l).length * 50000 <= 20 * 50000 := Nat.mul_le_mul_right _ (by omega)
    omega
   have HPm := Lib.hid (partIs_all (datsP l))
   rw [hck] at HCk
   generalize (ckE l).2 = R2 at *
   generalize partsD [1, 2, 3] 0 (datsP l) = ps at *
   clear hl hS hck hff hsz hsum hdb
   go_enter Tryz.func5, Tryz.ntmps5
   go_upto_region 8 with (first
    | (go_at_call 7; go_loud (refine (HA.out _).mono ?_); rintro e w1 ⟨rfl, hk1⟩)
    | (go_at_call 8; go_loud (refine (HSh.out _ hk1).mono ?_); rintro e w2 ⟨rfl, hk2⟩; have HK2 := Lib.hid (hk1.trans hk2))
    | (go_at_call 9; go_loud (refine (HIt.out _ HK2.out).mono ?_); rintro e w3 ⟨v, rfl, ho3, hk3⟩; obtain ⟨ip, ic, rfl, his⟩ := ho3.sl; have HK3 := Lib.hid (HK2.out.trans hk3); have HIs := Lib.hid his; clear ho3 hk3 his)
    | (go_at_call 11; go_loud (refine (HCk.out _ HIs.out).mono ?_); rintro e w4 ⟨rfl, hk4⟩; have HK4 := Lib.hid (HK3.out.trans hk4); clear hk4))
   have HM8 := Lib.hid (HMk.out w4 HK4.out)
   clear HMk HIt HSh HCk HIs hk1
   go_upto_region 9 with (go_at_call 10; go_loud (refine HM8.out.mono ?_); rintro e w5 ⟨tp, tn, tc, fp, fn, fc, pp, pc, rfl, hps, hk5⟩)
   have hpc := hps.cap
   have hpm := hps.max
   unfold maxLen at hpm
   have HK6 := Lib.hid ((HK4.out.trans hk5).alloc (.cells #[.slice tp tn tc, .slice fp fn fc, .slice pp ps.length pc] 31))
   have k56 : Keeps NoB w5 (w5.alloc (.cells #[.slice tp tn tc, .slice fp fn fc, .slice pp ps.length pc] 31)) := (Keeps.refl _ _).alloc _
   have HP6 := Lib.hid (hps.keepN k56)
   have HB6 := Lib.hid (Bk.new (Keeps.refl NoB (w5.alloc (.cells #[.slice tp tn tc, .slice fp fn fc, .slice pp ps.length pc] 31))))
   clear hps hk5 k56 HK2 HK3 HK4
   go_upto_region 13 with fail
   generalize w5.alloc (.cells #[.slice tp tn tc, .slice fp fn fc, .slice pp ps.length pc] 31) = w6 at *
   generalize w5.heap.size = B5 at *
   go_loopw [7, 35] (fun n i wr => ∃ (k m : Nat), k <= ps.length ∧ i = .int .i64 k ∧ n = .int .i64 m ∧ (m : Int) <= 100000 * (k : Int) ∧ Keeps NoB w6 wr ∧ Hid (tolN (ps.take k) <= m)) (fun _ i _ => ps.length + 1 - (intOf i).toNat)
   case atStart => exact ⟨0, 0, Nat.zero_le _, rfl, rfl, by omega, Keeps.refl _ _, Lib.hid (Nat.le_refl _)⟩
   case round =>
    rename World => wr
    obtain ⟨k, m, hk, rfl, rfl, hm, hkr, hT⟩ := hrel
    have HKr := Lib.hid hkr
    by_cases hkl : k < ps.length
    ·obtain ⟨y, hy⟩ : ∃ y, ps[k]? = some y := ⟨_, List.getElem?_eq_getElem hkl⟩
     obtain ⟨x, hx1, hx2, htl, hBy⟩ := HPm.out y (List.mem_of_getElem? hy)
     have HBy := Lib.hid hBy
     have hps := HP6.out.keepN hkr
     obtain ⟨g, o, rfl, _, hg, a0, a1, a2⟩ := hps.prt hy
     have hsn := tolN_snoc hy
     obtain ⟨k', way, t⟩ := y
     simp only at a0 a1 a2 hsn htl
     have HTn : Hid (tolN (ps.take (k + 1)) <= m + (4 * x.size + 41)) := Lib.hid (by rw [hsn]; exact Nat.add_le_add hT.out htl)
     have hx4 := (part_sz hx1 hx2).2.1
     have hx5' := (part_sz hx1 hx2).2.2.1
     have hx3 : decide ((20000 : Int) < (x.size : Int)) = false := decide_eq_false (part_sz hx1 hx2).1
     have hx5 := Lib.hid hx5'
     clear hx5'
     obtain ⟨hk9, hki⟩ := idx_sz hkl hpl
     have HNx := Lib.hid (next_sz (k := k) hm hx2)
     have hm9 := m_sz hm hk9
     clear hm
     have ka : Keeps NoB wr (wr.alloc (.cells #[.int .i64 k', .int .i64 way, .string t] 45)) := (Keeps.refl _ _).alloc _
     have HBz := Lib.hid (HBy.out (wr.alloc (.cells #[.int .i64 k', .int .i64 way, .string t] 45)) ((HDb.out.on HK6.out).on (hkr.trans ka)))
     have HKa := Lib.hid (hkr.trans ka)
     have HBz : Hid (Calls Tryz.prog 14 #[.agg #[.int .i64 k', .int .i64 way, .string t]] (wr.alloc (.cells #[.int .i64 k', .int .i64 way, .string t] 45)) fun e w' => e = .returned (.tuple #[.string x, .int .i64 0]) ∧ Keeps NoB (wr.alloc (.cells #[.int .i64 k', .int .i64 way, .string t] 45)) w') := HBz
     clear hps hsn htl HBy hBy hy hT hkr ka hx1 hx2
     go_upto_region 18 with (go_at_call 14; go_loud (refine HBz.out.mono ?_); rintro e w8 ⟨rfl, hk8⟩; have HK8 := Lib.hid (HKa.out.trans hk8))
     have hx6 := hx5.out
     go_wp2
     go_roundw
     case rel => exact ⟨k + 1, m + (4 * x.size + 41), hkl, by go_num, by go_num, HNx.out, HK8.out, HTn.out⟩
     case measure => (simp [intOf]) <;> omega
    ·obtain rfl : k = ps.length := by omega
     have hT2 := hT.out
     rw [List.take_length] at hT2
     have hb7 := HB6.out.on hkr
     have e0 := hb7.cell 0 _ rfl
     have e1 := hb7.cell 1 _ rfl
     have e2 := hb7.cell 2 _ rfl
     have el := hb7.lt
     have hTd := told_any ps (fun y hy => by
      obtain ⟨x, hx1, hx2, htl, _⟩ := HPm.out y hy
      omega) (by omega) wr (HP6.out.keepN hkr) tp tn tc fp fn fc
     have HTd := Lib.hid hTd
     have hle : ((tolN ps : Nat) : Int) <= (m : Int) := by omega
     have HK7 := Lib.hid (HK6.out.trans hkr)
     clear hT hT2 hb7 hTd hkr
     generalize tolN ps = T at *
     go_wp2_with (go_at_call 15; go_loud (refine HTd.out.mono ?_); rintro e w8 ⟨rfl, hk8⟩)
     go_ret
     exact ⟨ret_bool (by simp [hle]), HK7.out.trans hk8⟩
  ·have hcb : ((ckE l).1 != 0) = true := by simpa using hck
   generalize (ckE l).1 = R1 at *
   generalize (ckE l).2 = R2 at *
   clear hl hS hck hsz hsum hdb
   go_enter Tryz.func5, Tryz.ntmps5
   go_wp2_with (first
    | (go_at_call 7; go_loud (refine (HA.out _).mono ?_); rintro e w1 ⟨rfl, hk1⟩)
    | (go_at_call 8; go_loud (refine (HSh.out _ hk1).mono ?_); rintro e w2 ⟨rfl, hk2⟩; have HK2 := Lib.hid (hk1.trans hk2))
    | (go_at_call 9; go_loud (refine (HIt.out _ HK2.out).mono ?_); rintro e w3 ⟨v, rfl, ho3, hk3⟩; obtain ⟨ip, ic, rfl, his⟩ := ho3.sl; have HK3 := Lib.hid (HK2.out.trans hk3); have HIs := Lib.hid his; clear ho3 hk3 his)
    | (go_at_call 11; go_loud (refine (HCk.out _ HIs.out).mono ?_); rintro e w4 ⟨rfl, hk4⟩; have HK4 := Lib.hid (HK3.out.trans hk4); clear hk4))
   go_ret
   exact ⟨rfl, HK4.out⟩
end Go.Proofs.YtonkgdoaobojbaaGreatDoor
namespace Go.Proofs.YtonkgdoaobojbaaGreatDoor
open Go.RowKit Go.ChangeShapes Go.WideShapes Go.ChangeAt
theorem list_of {α : Type} {Q : Nat -> α -> Prop} : ∀ n, (∀ i, i < n -> ∃ x, Q i x) -> ∃ l : List α, l.length = n ∧ ∀ i x, l[i]? = some x -> Q i x
 | 0, _ => ⟨[], rfl, fun i x h => by simp at h⟩
 | n + 1, h => by
   obtain ⟨l, hl, hq⟩ := list_of n (fun i hi => h i (by omega))
   obtain ⟨x, hx⟩ := h n (by omega)
   refine ⟨l ++ [x], by simp [hl], fun i y hy => ?_⟩
   by_cases hi : i < n
   ·rw [List.getElem?_append_left (by omega)] at hy; exact hq i y hy
   ·rw [List.getElem?_append_right (by omega)] at hy
    have hi0 : i - l.length = 0 := by
     have := (List.getElem?_eq_some_iff.1 hy).1
     simp at this; omega
    rw [hi0] at hy
    have : i = n := by omega
    subst this
    simp at hy; subst hy; exact hx
section
variable {H : Type} {enc : TypeId × Value -> H} {P : Program} {W : World}
end
end Go.Proofs.YtonkgdoaobojbaaGreatDoor
namespace Go.Proofs.YtonkgdoaobojbaaGreatDoor
open Go Go.RowKit Go.ChangeShapes Go.WideShapes Go.ChangeAt
section
variable {H : Type} {enc : TypeId × Value -> H} {P : Program} {W : World}
theorem weightsAll_mem {e : TypeId} : ∀ (l : List (DataW H)) (q : Nat -> Bool), (DataW.weightsAll P e l).all q = true -> ∀ d ∈ l, (d.weights P e).all q = true
 | [], _, _, d, hd => by cases hd
 | a :: l, q, h, d, hd => by
   rw [DataW.weightsAll, List.all_append, Bool.and_eq_true] at h
   rcases List.mem_cons.1 hd with rfl | hd
   ·exact h.1
   ·exact weightsAll_mem l q h.2 d hd
theorem weights_head {t : TypeId} {ts vts : List TypeId} {d : DataW H} {ds : List (DataW H)} {q : Nat -> Bool} (h : (DataW.weightsEach P (t :: ts ++ vts) (d :: ds)).all q = true) : (d.weights P t).all q = true := by
 rw [List.cons_append, DataW.weightsEach, List.all_append, Bool.and_eq_true] at h
 exact h.1
theorem open_slW {α : Type} (E : Enc α) {good : α -> Prop} {t e : TypeId} {p : Option Addr} {len cap : Nat} {d : DataW H} {ps : List MemPlace} (ht : P.underlying t = some (.slice e)) (hC : P.cellsOf e = E.k)
 (h : DataW.Trod enc P W 0 (fun _ => true) true t (.slice p len cap) d ps) (hw : (d.weights P t).all (· <= reachBytes) = true)
 (hdec : ∀ (n : Nat) (cs : List Value) (y : DataW H × List MemPlace), cs.length = E.k -> DataW.trod enc P W 0 (fun _ => true) true n e cs = some y -> (y.1.weights P e).all (· <= reachBytes) = true -> ∃ x, E.enc x = cs ∧ good x) :
 ∃ l : List α, len = l.length ∧ SlAt E (fun g => g < W.heap.size) W p cap l ∧ ∀ x ∈ l, good x := by
 obtain ⟨fuel, hf⟩ := h
 rcases Go.Deep.open_slice ht hf with ⟨hcs, _⟩ | ⟨a, len1, cap1, m, n, D, Pl, hcs, _, hl, hm, hmm, hdd, hi⟩
 ·simp [Value.cells] at hcs
  obtain ⟨e1, e2, e3⟩ := hcs
  subst e1 e2 e3
  exact ⟨[], rfl, ⟨Nat.le_refl _, Nat.zero_le _, fun _ => rfl, (fun h => by omega), (fun h => by simp at h)⟩, by simp⟩
 ·simp [Value.cells] at hcs
  obtain ⟨e1, e2, e3⟩ := hcs
  subst e1 e2 e3
  simp only [if_true] at hmm
  have hmm1 := hmm.symm
  subst hmm1
  clear hmm
  have hel : ∀ i, i < cap -> ((D i).weights P e).all (· <= reachBytes) = true := fun i hi => by
   have hd1 : d = .slice ((List.range len).map D) ((List.range (cap - len)).map fun j => D (len + j)) := congrArg Prod.fst hdd
   rw [hd1] at hw
   simp only [DataW.weights, ht, List.all_cons, List.all_append, Bool.and_eq_true] at hw
   by_cases hil : i < len
   ·exact weightsAll_mem _ _ hw.2.1 (D i) (List.mem_map.2 ⟨i, List.mem_range.2 hil, rfl⟩)
   ·exact weightsAll_mem _ _ hw.2.2 (D i) (List.mem_map.2 ⟨i - len, List.mem_range.2 (by omega), by rw [show len + (i - len) = i by omega]⟩)
  obtain ⟨l, hll, hq⟩ := list_of (Q := fun i x => (∀ j, j < E.k -> W.cell? (a.add (i * E.k + j)) = (E.enc x)[j]?) ∧ good x) cap (fun i him => by
   obtain ⟨cs', hc, ht'⟩ := hi i him
   rw [hC] at hc
   obtain ⟨_, hcl, hat⟩ := World.cells?_some hc
   obtain ⟨x, hx, hg⟩ := hdec n cs' _ hcl ht' (hel i him)
   refine ⟨x, fun j hj => ?_, hg⟩
   rw [hx, <- hat j hj, Go.Deep.add_add])
  have hspot : 0 < cap -> a.spot = none := fun h0 => by
   obtain ⟨x, hx⟩ : ∃ x, l[0]? = some x := ⟨_, List.getElem?_eq_getElem (by omega)⟩
   have h1 := (hq 0 x hx).1 0 E.pos
   obtain ⟨u, hu⟩ : ∃ u, (E.enc x)[0]? = some u := ⟨_, List.getElem?_eq_getElem (by rw [E.len]; exact E.pos)⟩
   rw [hu] at h1
   simpa [Addr.add] using World.cell?_spot h1
  refine ⟨l.take len, by simp; omega, ⟨by simp; omega, hm, (fun h => by cases h), (fun h0 a' ha => by cases ha; exact hspot h0), fun h0 => ?_⟩, fun x hx => ?_⟩
  ·simp at h0
   have hs := hspot (by omega)
   obtain ⟨b, off, sp⟩ := a
   subst hs
   refine ⟨b, off, rfl, ?_, ?_, fun j hj => ?_⟩
   rotate_left 2
   ·have hk := E.pos
    rw [List.length_take, Nat.min_eq_left (by omega)] at hj
    have hd : j = j / E.k * E.k + j % E.k := by rw [Nat.mul_comm]; exact (Nat.div_add_mod j E.k).symm
    have hm' := Nat.mod_lt j hk
    have hq' : j / E.k < len := Nat.div_lt_of_lt_mul (by rw [Nat.mul_comm]; exact hj)
    obtain ⟨x, hx⟩ : ∃ x, l[j / E.k]? = some x := ⟨_, List.getElem?_eq_getElem (by omega)⟩
    have h1 := (hq _ x hx).1 _ hm'
    rw [add_lit] at h1
    rw [hd, h1, E.flat_get _ _ _ hm', List.getElem?_take, if_pos hq', hx]; rfl
   all_goals
    obtain ⟨x, hx⟩ : ∃ x, l[0]? = some x := ⟨_, List.getElem?_eq_getElem (by omega)⟩
    have h1 := (hq 0 x hx).1 0 E.pos
    obtain ⟨u, hu⟩ : ∃ u, (E.enc x)[0]? = some u := ⟨_, List.getElem?_eq_getElem (by rw [E.len]; exact E.pos)⟩
    rw [hu, add_lit] at h1
    exact lt_of_cell h1
  ·obtain ⟨i, hi⟩ := List.mem_iff_getElem?.1 (List.mem_of_mem_take hx)
   exact (hq i x hi).2
end
theorem cells_int26 : Tryz.prog.cellsOf 3 = 1 := by kernel_rfl
theorem cells_string26 : Tryz.prog.cellsOf 9 = 1 := by kernel_rfl
theorem open_itm {H : Type} {enc : TypeId × Value -> H} {W : World} {p : Option Addr} {len cap : Nat} {d : DataW H} {ps : List MemPlace}
 (hw : (d.weights Tryz.prog 23).all (· <= reachBytes) = true) (h : DataW.Trod enc Tryz.prog W 0 (fun _ => true) true 23 (.slice p len cap) d ps) :
 ∃ l : List Itm, len = l.length ∧ SlAt encItm (fun g => g < W.heap.size) W p cap l ∧ ∀ i ∈ l, i.p.size <= 140737488351232 ∧ i.dat.size <= 140737488351232 ∧ i.same.size <= 140737488351232 := by
 refine open_slW encItm Tryz.underlying23 (by kernel_rfl) h hw fun n cs y hl hy hq => ?_
 match cs, hl with
 | [v0, v1, v2, v3, v4], _ =>
   obtain ⟨xs, n', hy1, hy2, hy3, hlen, hf⟩ := DataW.trod_struct Tryz.underlying42 hy
   match xs, hlen with
   | [y0, y1, y2, y3, y4], _ =>
     have h0 := hf 0 _ rfl
     have h1 := hf 1 _ rfl
     have h2 := hf 2 _ rfl
     have h3 := hf 3 _ rfl
     have h4 := hf 4 _ rfl
     simp only [List.getElem_toArray, List.getElem_cons_zero, List.getElem_cons_succ, cells_int26, cells_string26, List.drop_zero, List.drop_succ_cons, List.take_succ_cons, List.take_zero] at h0 h1 h2 h3 h4
     obtain ⟨a, ha, e0, _⟩ := DataW.trod_string Tryz.underlying9 h0
     obtain ⟨b, hb, e1, _⟩ := DataW.trod_int Tryz.underlying3 h1
     obtain ⟨c, hc, e2, _⟩ := DataW.trod_int Tryz.underlying3 h2
     obtain ⟨d, hd, e3, _⟩ := DataW.trod_string Tryz.underlying9 h3
     obtain ⟨e, he, e4, _⟩ := DataW.trod_string Tryz.underlying9 h4
     subst e0 e1 e2 e3 e4
     subst hy2
     simp only [DataW.weights, Tryz.underlying42, List.map_cons, List.map_nil, DataW.weightsEach, List.append_nil, List.nil_append, List.cons_append, List.all_cons, List.all_nil, Bool.and_true, Bool.and_eq_true, decide_eq_true_eq, Lib.size_eq] at hq
     have hr : reachBytes = 140737488351232 := rfl
     rw [hr] at hq
     have hq1 : a.size <= 140737488351232 ∧ d.size <= 140737488351232 ∧ e.size <= 140737488351232 := by
      rw [Lib.size_eq, Lib.size_eq, Lib.size_eq]
      simpa using hq
     simp only [List.cons.injEq, and_true] at ha hb hc hd he
     subst ha hb hc hd he
     exact ⟨⟨a, b, c, d, e⟩, rfl, hq1⟩
end Go.Proofs.YtonkgdoaobojbaaGreatDoor
namespace Go.Proofs.YtonkgdoaobojbaaGreatDoor
open Go Go.RowKit
theorem fint_of_trod {H : Type} {enc : TypeId × Value -> H} {P : Program} {w : World} {base : Nat} {sp : Nat -> Bool} {held : Bool} {fuel : Nat} {t : TypeId} {k : IntKind} {c : Value} {y : DataW H × List MemPlace}
 (ht : P.underlying t = some (.int k)) (h : DataW.trod enc P w base sp held fuel t [c] = some y) : ∃ n, c = .int k n ∧ y = (.lit (.int k n), []) := by
 cases fuel with
 | zero => simp [DataW.trod] at h
 | succ fuel =>
   cases c <;> simp [DataW.trod, ht] at h
   rename_i k' n
   obtain ⟨⟨rfl, _⟩, rfl⟩ := h
   exact ⟨n, rfl, rfl⟩
theorem dbOk_of {W : World} (h : laidMet Tryz.prog [("math/bits.deBruijn64tab", Rows.laid_math_bits_deBruijn64tab)] W) : DbOk W := by
 obtain ⟨ps, ⟨g, t, cs, fuel, p, q, hg, ht, hvar, hd, _, _⟩, _⟩ := h
 obtain rfl : 4 = g := Option.some.inj ((show Tryz.prog.globalNamed "math/bits.deBruijn64tab" = some 4 by kernel_rfl).symm.trans hg)
 obtain rfl : 213 = t := Option.some.inj ((show (Tryz.prog.globals[4]?).map (·.type) = some 213 by kernel_rfl).symm.trans ht)
 obtain ⟨xs, m, rfl, hx, hlen, hxl, hat⟩ := DataW.trod_array (show Tryz.prog.underlying 213 = some (.array 64 5) by kernel_rfl) hd
 have h7 := hat 7 (by decide)
 rw [show Tryz.prog.cellsOf 5 = 1 by kernel_rfl] at h7
 rw [show Tryz.prog.cellsOf 213 = 64 by kernel_rfl] at hlen
 have hc7 : 7 < cs.toList.length := by omega
 have hx7 : 7 < xs.length := by omega
 rw [show 7 * 1 = 7 from rfl, List.drop_eq_getElem_cons hc7, List.take_succ_cons, List.take_zero, List.getElem?_eq_getElem hx7] at h7
 obtain ⟨n, hn, hy⟩ := fint_of_trod (show Tryz.prog.underlying 5 = some (.int .u8) by kernel_rfl) h7
 have h1 := congrArg Prod.fst hx
 simp only [Rows.laid_math_bits_deBruijn64tab] at h1
 injection h1 with h1
 have h2 := congrArg (fun l => l[7]?) h1
 simp only [List.getElem?_map, List.getElem?_eq_getElem hx7, hy, Option.map_some] at h2
 have h3 : n = 3 := by
  have := Option.some.inj h2
  injection this with this
  injection this with _ this
  exact this.symm
 unfold DbOk
 rw [World.var?_cell (show Tryz.prog.globalNamed "math/bits.deBruijn64tab" = some 4 by kernel_rfl) hvar 7, <- Array.getElem?_toList, List.getElem?_eq_getElem hc7, hn, h3]
end Go.Proofs.YtonkgdoaobojbaaGreatDoor
