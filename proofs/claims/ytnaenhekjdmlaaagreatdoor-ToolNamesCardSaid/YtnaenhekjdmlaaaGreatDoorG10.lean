/-
  Layer 5, plain: the path of a directory from the root. No program in sight.
-/
import Derived.Test.YtnaenhekjdmlaaaGreatDoorG06
import Derived.Test.YtnaenhekjdmlaaaGreatDoorG03
import Derived.Test.YtnaenhekjdmlaaaGreatDoorG09
import Derived.Test.YtnaenhekjdmlaaaGreatDoorG08
import Derived.Test.YtnaenhekjdmlaaaGreatDoorG07
import Derived.Deep.RegionHeld3
import Derived.BigRegion
import Derived.StillTailTactics

set_option linter.unusedSimpArgs false
set_option linter.unusedVariables false
set_option maxRecDepth 100000
namespace Go.Proofs.YtnaenhekjdmlaaaGreatDoor
section
variable {d : Nds} {up : Int -> Int}
theorem okName_parts {n : ByteArray} (h : okName n = true) : ¬ n = ⟨#[]⟩ ∧ n ≠ dotB ∧ n ≠ dotsB ∧ n.size <= 255 ∧ hasB n 47 = false := by
 unfold okName at h
 simp only [Bool.and_eq_true, decide_eq_true_eq, Bool.not_eq_true', bne_iff_ne, ne_eq] at h
 obtain ⟨⟨⟨⟨⟨h1, h2⟩, h3⟩, h4⟩, h5⟩, h6⟩ := h
 refine ⟨fun e => ?_, fun e => ?_, fun e => ?_, h2, h5⟩
 ·subst e; exact absurd h1 (by decide)
 ·subst e; exact h3 rfl
 ·subst e; exact h4 rfl
end
section
variable {d : Nds}
structure RootOk (d : Nds) (k : Nat) : Prop where
 kind : (nd d 1).kind = 2
 mode : (nd d 1).mode = 493
 ents : (nd d 1).ents.length <= k
theorem RootOk.into {k : Nat} (h : RootOk d k) : intoErr d 1 = 0 := by
 unfold intoErr folderErr
 rw [h.kind, h.mode]; decide
theorem RootOk.thr {k : Nat} (h : RootOk d k) (hI : DInv d) : thrR d 1 dotB true = (.on 1, 0) := by
 have hq : stepR d (upC d) 1 dotB (false || true) 0 = ⟨.on 1, ⟨#[]⟩, 0, 0⟩ := by
  unfold stepR
  rw [if_neg (by rw [h.into]; simp), if_pos rfl]
 unfold thrR fndR
 rw [findR, if_neg (by decide), show prts dotB = [dotB] by decide, if_neg (by simp), show endS dotB = false by decide, show absB dotB = false by decide]
 simp only [Bool.false_eq_true, if_false]
 rw [scan_one (slash := false) (follow := true) hq, if_neg (by simp), if_neg (by simp)]
 simp [endR, thereR, Plc.on]
theorem RootOk.list {k : Nat} (h : RootOk d k) (hI : DInv d) : lstE d (thrR d 1 dotB true) = 0 := by
 rw [h.thr hI]
 have hh : has d 1 := by unfold has; rw [h.kind]; decide
 have e1 : statE d (Plc.on 1, 0) = 0 := by
  unfold statE
  rw [if_neg (by simp)]
  exact if_pos hh
 unfold lstE
 rw [e1, if_neg (by simp)]
 show (if (nd d 1).kind ≠ 2 then _ else if (bits BinOp.and IntKind.i64 (nd d 1).mode 256 == 0) = true then _ else _) = _
 rw [if_neg (by rw [h.kind]; simp), h.mode]
 decide
end
section
variable {d d' : Nds} {room : Int}
theorem Kills.root (k : Kills d d') (h : has d 1) : nd d' 1 = nd d 1 := by
 induction k with
 | refl => rfl
 | @step d1 d2 i hi _ ih =>
   have hne : (1 : Int) ≠ i := fun e => by subst e; exact DInv.not_garb_root hi
   have hq : nd (kill d1 i) 1 = nd d1 1 := by rw [nd_kill hi.1, if_neg hne]
   rw [ih (by unfold has; rw [hq]; exact h), hq]
theorem RootOk.mono {k k' : Nat} (h : RootOk d k) (hk : k <= k') : RootOk d k' := ⟨h.kind, h.mode, Nat.le_trans h.ents hk⟩
theorem RootOk.has {k : Nat} (h : RootOk d k) : has d 1 := by unfold Go.Proofs.YtnaenhekjdmlaaaGreatDoor.has; rw [h.kind]; decide
theorem RootOk.same {k : Nat} (h : RootOk d k) (e : nd d' 1 = nd d 1) : RootOk d' k := ⟨by rw [e]; exact h.kind, by rw [e]; exact h.mode, by rw [e]; exact h.ents⟩
theorem RootOk.new : RootOk newD 0 := by
 have e : nd newD 1 = rootNd := by rw [nd_new, if_pos rfl]
 exact ⟨by rw [e]; rfl, by rw [e]; rfl, by rw [e]; exact Nat.le_refl 0⟩
theorem nds_ext {e : Nds} (hl : d.length = e.length) (h : ∀ j, nd d j = nd e j) : d = e := by
 apply List.ext_getElem hl
 intro i h1 h2
 have := h i
 unfold nd at this
 rw [if_pos (by omega), if_pos (by omega), Int.toNat_natCast] at this
 simpa [List.getD, List.getElem?_eq_getElem h1, List.getElem?_eq_getElem h2] using this
theorem mk_root (hI : DInv d) (hcl : NoGarb d) {k : Nat} (h : RootOk d k) {x : ByteArray} (hp : pathErr x = 0) (hl : prts x = [x]) (hs : endS x = false) (ha : absB x = false) (hn : okName x = true) (hno : entHas (nd d 1).ents x = false) (hc : count d < 65536) (hu : (used d : Int) + x.size <= 100) :
 (mkdirR d 100 1 0 x 511).2 = 0 ∧ (mkdirR d 100 1 0 x 511).1.length = d.length + 1 ∧
   ∀ j, nd (mkdirR d 100 1 0 x 511).1 j = if j = d.length then ⟨2, 511, 0, ⟨#[]⟩, []⟩ else if j = 1 then (nd d 1).setEnts (entPut (nd d 1).ents x d.length) else nd d j := by
 obtain ⟨n1, n2, n3, n4, n5⟩ := okName_parts hn
 have hg := entGet_none hno
 have hf : fndR d 1 x false = (⟨0, 1, x⟩, 0) := by
  have := find_1 (d := d) (up := upC d) (s := x) (a := x) (follow := false) h.into hp hl hs ha n2 n3 n4 (fun k hk => by rw [hg] at hk; cases hk) 40 0
  rw [hg] at this
  exact this
 have hmy : mayE d 1 128 = 0 := by unfold mayE; rw [if_neg (fun hh => hh h.has), h.mode]; decide
 have hfr : freeR d 1 x true = (⟨0, 1, x⟩, 0) := by
  unfold freeR
  rw [hf, if_neg (by simp), if_neg (by simp), if_neg (by simp), hmy]
 obtain ⟨g1, g2, g3⟩ := made_go (d := d) (room := 100) (kind := 2) (m := freshM 511 0) (s := ⟨#[]⟩) (at' := 1) (nm := x) hI (by decide) (by decide) (by decide) (by decide) (by decide) hn
  (by unfold folderErr; rw [h.kind]; decide) hno hc (by rw [show (⟨#[]⟩ : ByteArray).size = 0 from rfl]; omega)
 obtain ⟨h1, h2, h3⟩ := made_ok (p := ⟨0, 1, x⟩) hI hcl g1 g2 g3
 unfold mkdirR
 rw [hfr, if_neg (by simp)]
 refine ⟨h1, h2, fun j => ?_⟩
 rw [h3]
 rw [show freshM 511 0 = 511 by decide]
end
def ancD (es : List Ent) (n : Nat) : Nds := [Nd.gone, ⟨2, 493, 0, ⟨#[]⟩, es⟩] ++ List.replicate n ⟨2, 511, 0, ⟨#[]⟩, []⟩
theorem anc_step {es : List Ent} {n : Nat} (hI : DInv (ancD es n)) (hcl : NoGarb (ancD es n)) {x : ByteArray} (hp : pathErr x = 0) (hl : prts x = [x]) (hs : endS x = false) (ha : absB x = false) (hn : okName x = true) (hno : entHas es x = false)
 (hc : count (ancD es n) < 65536) (hu : (used (ancD es n) : Int) + x.size <= 100) : (mkdirR (ancD es n) 100 1 0 x 511).1 = ancD (entPut es x ((n + 2 : Nat) : Int)) (n + 1) := by
 have e1 : nd (ancD es n) 1 = ⟨2, 493, 0, ⟨#[]⟩, es⟩ := rfl
 have h : RootOk (ancD es n) es.length := ⟨by rw [e1], by rw [e1], by rw [e1]; exact Nat.le_refl _⟩
 have hlen : (ancD es n).length = n + 2 := by unfold ancD; simp <;> omega
 obtain ⟨_, h2, h3⟩ := mk_root hI hcl h hp hl hs ha hn (by rw [e1]; exact hno) hc hu
 have happ : ancD (entPut es x ((n + 2 : Nat) : Int)) (n + 1) = ancD (entPut es x ((n + 2 : Nat) : Int)) n ++ [⟨2, 511, 0, ⟨#[]⟩, []⟩] := by
  unfold ancD
  rw [List.replicate_succ', List.append_assoc]
 have hlen2 : (ancD (entPut es x ((n + 2 : Nat) : Int)) n).length = n + 2 := by unfold ancD; simp <;> omega
 refine nds_ext (by rw [h2, hlen]; unfold ancD; simp <;> omega) fun j => ?_
 rw [h3, hlen, happ, nd_append, hlen2]
 by_cases j1 : j = ((n + 2 : Nat) : Int)
 ·rw [if_pos j1, if_pos j1]
 rw [if_neg j1, if_neg j1]
 by_cases j2 : j = 1
 ·subst j2
  rw [if_pos rfl]
  rfl
 rw [if_neg j2]
 by_cases j3 : 0 <= j
 ·obtain ⟨i, rfl⟩ : ∃ i : Nat, j = i := ⟨j.toNat, by omega⟩
  match i, j2 with
  | 0, _ => rfl
  | 1, h => exact absurd rfl h
  | i + 2, _ => rfl
 ·unfold nd
  rw [if_neg j3, if_neg j3]
end Go.Proofs.YtnaenhekjdmlaaaGreatDoor
set_option maxHeartbeats 4000000
namespace Go.Proofs.YtnaenhekjdmlaaaGreatDoor
open Go Go.RowKit
theorem toList_ne {x s : ByteArray} (h : ¬ x = s) : (x.toList == s.toList) = false := by
 rw [beq_eq_false_iff_ne]
 intro e
 rw [Lib.toList_data, Lib.toList_data] at e
 exact h (ByteArray.ext (Array.toList_inj.1 e))
def isIn (l : List ByteArray) (s : ByteArray) : Bool := l.any fun x => decide (x = s)
theorem isIn_some {l : List ByteArray} {x s : ByteArray} {k : Nat} (h : l[k]? = some x) (e : x = s) : isIn l s = true := by
 unfold isIn
 rw [List.any_eq_true]
 exact ⟨x, List.mem_of_getElem? h, by rw [decide_eq_true_eq]; exact e⟩
theorem isIn_snoc {l : List ByteArray} {x s : ByteArray} {k : Nat} (h : l[k]? = some x) (e : ¬ x = s) (h0 : isIn (l.take k) s = false) : isIn (l.take (k + 1)) s = false := by
 unfold isIn at h0 ⊢
 rw [List.take_add_one, h, List.any_append, h0]
 simp [e]
def tNm : List ByteArray := [⟨#[91]⟩, ⟨#[99, 104, 109, 111, 100]⟩, ⟨#[99, 112]⟩, ⟨#[108, 110]⟩, ⟨#[108, 115]⟩, ⟨#[109, 107, 100, 105, 114]⟩, ⟨#[109, 118]⟩, ⟨#[112, 119, 100]⟩, ⟨#[114, 109]⟩, ⟨#[114, 109, 100, 105, 114]⟩, ⟨#[116, 101, 115, 116]⟩, ⟨#[117, 117, 100, 101, 99, 111, 100, 101]⟩]
theorem tnames_any (w : World) : Calls Tryz.prog 31 #[] w fun e w' => e = .returned (.slice (some ⟨w.heap.size, 0, none⟩) 12 12) ∧ SlAt encStr (fun _ => True) w' (some ⟨w.heap.size, 0, none⟩) 12 tNm ∧ Keeps NoB w w' := by
 have HL := Lib.hid (own_lit (E := encStr) (e := 9) (w := w) (S := fun _ => True) tNm #[.string ⟨#[91]⟩, .string ⟨#[99, 104, 109, 111, 100]⟩, .string ⟨#[99, 112]⟩, .string ⟨#[108, 110]⟩, .string ⟨#[108, 115]⟩, .string ⟨#[109, 107, 100, 105, 114]⟩, .string ⟨#[109, 118]⟩, .string ⟨#[112, 119, 100]⟩, .string ⟨#[114, 109]⟩, .string ⟨#[114, 109, 100, 105, 114]⟩, .string ⟨#[116, 101, 115, 116]⟩, .string ⟨#[117, 117, 100, 101, 99, 111, 100, 101]⟩] rfl 12 rfl trivial (by decide))
 go_enter Tryz.func31, Tryz.ntmps31
 go_wp2
 go_ret
 exact ⟨rfl, HL.out.at, (Keeps.refl _ _).alloc _⟩
theorem thas_any (s : ByteArray) (w : World) : Calls Tryz.prog 32 #[.string s] w fun e w' => e = .returned (.bool (isIn tNm s)) ∧ Keeps NoB w w' := by
 have HN := Lib.hid tnames_any
 go_enter Tryz.func32, Tryz.ntmps32
 go_wp2_with (go_at_call 31; go_loud (refine (HN.out _).mono ?_); rintro e w1 ⟨rfl, hs, hk⟩)
 have HS := Lib.hid hs
 have HK := Lib.hid hk
 clear HN hs hk
 go_loop [7] (fun i => ∃ k : Nat, k <= 12 ∧ i = .int .i64 k ∧ Hid (isIn (tNm.take k) s = false)) (fun i => 13 - (intOf i).toNat)
 case atStart => exact ⟨0, by omega, rfl, by show isIn _ s = false; rfl⟩
 case round =>
  obtain ⟨k, hk, rfl, hno⟩ := hrel
  by_cases hlt : k < 12
  ·obtain ⟨x, hx⟩ : ∃ x, tNm[k]? = some x := ⟨_, List.getElem?_eq_getElem (by show k < 12; exact hlt)⟩
   obtain ⟨g, off, hg, _, _, c0⟩ := HS.out.str hx
   cases hg
   simp only [Nat.zero_add] at c0
   have HX := Lib.hid hx
   clear hx
   by_cases he : x = s
   ·subst he
    go_wp2
    go_ret
    refine ⟨ret_bool ?_, HK.out⟩
    exact (isIn_some HX.out rfl).symm
   ·have HE := Lib.hid he
    have hb : (x.toList == s.toList) = false := toList_ne he
    clear he
    go_wp2
    go_round
    case rel =>
     refine ⟨k + 1, by omega, by go_num, ?_⟩
     exact isIn_snoc HX.out HE.out hno
    case measure => simp [intOf]; omega
  ·obtain rfl : k = 12 := by omega
   go_wp2
   go_ret
   refine ⟨ret_bool ?_, HK.out⟩
   exact hno.symm
def fNm : List ByteArray := [⟨#[98, 97, 115, 101, 110, 97, 109, 101]⟩, ⟨#[99, 97, 116]⟩, ⟨#[99, 107, 115, 117, 109]⟩, ⟨#[99, 109, 112]⟩, ⟨#[100, 105, 114, 110, 97, 109, 101]⟩, ⟨#[101, 99, 104, 111]⟩, ⟨#[101, 120, 112, 114]⟩, ⟨#[102, 97, 108, 115, 101]⟩, ⟨#[104, 101, 97, 100]⟩, ⟨#[112, 114, 105, 110, 116, 102]⟩, ⟨#[116, 97, 105, 108]⟩, ⟨#[116, 114, 117, 101]⟩, ⟨#[117, 117, 101, 110, 99, 111, 100, 101]⟩, ⟨#[119, 99]⟩]
theorem fnames_any (w : World) : Calls Tryz.prog 15 #[] w fun e w' => e = .returned (.slice (some ⟨w.heap.size, 0, none⟩) 14 14) ∧ SlAt encStr (fun _ => True) w' (some ⟨w.heap.size, 0, none⟩) 14 fNm ∧ Keeps NoB w w' := by
 have HL := Lib.hid (own_lit (E := encStr) (e := 9) (w := w) (S := fun _ => True) fNm #[.string ⟨#[98, 97, 115, 101, 110, 97, 109, 101]⟩, .string ⟨#[99, 97, 116]⟩, .string ⟨#[99, 107, 115, 117, 109]⟩, .string ⟨#[99, 109, 112]⟩, .string ⟨#[100, 105, 114, 110, 97, 109, 101]⟩, .string ⟨#[101, 99, 104, 111]⟩, .string ⟨#[101, 120, 112, 114]⟩, .string ⟨#[102, 97, 108, 115, 101]⟩, .string ⟨#[104, 101, 97, 100]⟩, .string ⟨#[112, 114, 105, 110, 116, 102]⟩, .string ⟨#[116, 97, 105, 108]⟩, .string ⟨#[116, 114, 117, 101]⟩, .string ⟨#[117, 117, 101, 110, 99, 111, 100, 101]⟩, .string ⟨#[119, 99]⟩] rfl 14 rfl trivial (by decide))
 go_enter Tryz.func15, Tryz.ntmps15
 go_wp2
 go_ret
 exact ⟨rfl, HL.out.at, (Keeps.refl _ _).alloc _⟩
theorem fhas_any (s : ByteArray) (w : World) : Calls Tryz.prog 16 #[.string s] w fun e w' => e = .returned (.bool (isIn fNm s)) ∧ Keeps NoB w w' := by
 have HN := Lib.hid fnames_any
 go_enter Tryz.func16, Tryz.ntmps16
 go_wp2_with (go_at_call 15; go_loud (refine (HN.out _).mono ?_); rintro e w1 ⟨rfl, hs, hk⟩)
 have HS := Lib.hid hs
 have HK := Lib.hid hk
 clear HN hs hk
 go_loop [7] (fun i => ∃ k : Nat, k <= 14 ∧ i = .int .i64 k ∧ Hid (isIn (fNm.take k) s = false)) (fun i => 15 - (intOf i).toNat)
 case atStart => exact ⟨0, by omega, rfl, by show isIn _ s = false; rfl⟩
 case round =>
  obtain ⟨k, hk, rfl, hno⟩ := hrel
  by_cases hlt : k < 14
  ·obtain ⟨x, hx⟩ : ∃ x, fNm[k]? = some x := ⟨_, List.getElem?_eq_getElem (by show k < 14; exact hlt)⟩
   obtain ⟨g, off, hg, _, _, c0⟩ := HS.out.str hx
   cases hg
   simp only [Nat.zero_add] at c0
   have HX := Lib.hid hx
   clear hx
   by_cases he : x = s
   ·subst he
    go_wp2
    go_ret
    refine ⟨ret_bool ?_, HK.out⟩
    exact (isIn_some HX.out rfl).symm
   ·have HE := Lib.hid he
    have hb : (x.toList == s.toList) = false := toList_ne he
    clear he
    go_wp2
    go_round
    case rel =>
     refine ⟨k + 1, by omega, by go_num, ?_⟩
     exact isIn_snoc HX.out HE.out hno
    case measure => simp [intOf]; omega
  ·obtain rfl : k = 14 := by omega
   go_wp2
   go_ret
   refine ⟨ret_bool ?_, HK.out⟩
   exact hno.symm
theorem sub_list (s : ByteArray) (k : Nat) : (s.extract k s.size).data.toList = s.data.toList.drop k := by
 rw [data_extract, List.take_of_length_le (by rw [len_data]; exact Nat.le_refl _)]
theorem trimb_same (s : ByteArray) (w : World) (h1 : 1 <= s.size) (hm : s.size <= 4294967296) (hne : endS s = false) :
 Calls Tryz.prog 214 #[.string s, .int .u8 47] w fun e w' => e = .returned (.string s) ∧ w = w' := by
 have hb : ((s[s.size - 1].toNat : Int) == 47) = false := by
  rw [endS_last s h1, decide_eq_false_iff_not] at hne
  rw [byte_eq _ _ (by decide) (by decide), decide_eq_false_iff_not]
  exact hne
 clear hne
 go_enter Tryz.func214, Tryz.ntmps214
 go_wp2
 go_loop [0] (fun v => v = .string s) (fun _ => 0)
 case atStart => rfl
 case round =>
  subst hrel
  go_wp2
  go_ret
  exact ⟨rfl, rfl⟩
theorem trim_same (s : ByteArray) (w : World) (h1 : 1 <= s.size) (hm : s.size <= 4294967296) (hne : endS s = false) :
 Calls Tryz.prog 171 #[.string s, .string slashB] w fun e w' => e = .returned (.string s) ∧ w = w' := by
 have HT := Lib.hid (trimb_same s w h1 hm hne)
 have hz : (!s.toList.isEmpty) = true := notEmpty_eq (fun e => by subst e; exact absurd h1 (by decide))
 have hz2 : s.toList.isEmpty = false := by simpa using hz
 clear hne
 go_enter Tryz.func171, Tryz.ntmps171
 go_wp2_with (go_at_call 214; go_loud (refine HT.out.mono ?_); rintro e w1 ⟨rfl, rfl⟩)
 go_ret
 exact ⟨rfl, rfl⟩
def abvL (s : ByteArray) : Nat -> List ByteArray
 | 0 => []
 | k + 1 => abvL s k ++ (if s.data.toList[k]? = some 47 then [s.extract 0 k] else [])
theorem abvL_len (s : ByteArray) : ∀ k, (abvL s k).length <= k
 | 0 => Nat.le_refl _
 | k + 1 => by
   have := abvL_len s k
   rw [abvL, List.length_append]
   split <;> simp <;> omega
theorem above_any (s : ByteArray) (w : World) (hs : s.size <= 4294967280) :
 Calls Tryz.prog 172 #[.string s] w fun e w' => ∃ v, e = .returned v ∧ Own encStr 9 (fun g => w.heap.size <= g) w' v (abvL s s.size) ∧ Keeps NoB w w' := by
 go_enter Tryz.func172, Tryz.ntmps172
 go_wp2
 go_loopw [3, 7] (fun o i wr => ∃ k : Nat, k <= s.size ∧ i = .int .i64 k ∧ Own encStr 9 (fun g => w.heap.size <= g) wr o (abvL s k) ∧ Keeps NoB w wr) (fun _ i _ => s.size - (intOf i).toNat)
 case atStart => exact ⟨0, Nat.zero_le _, rfl, Own.nil _ _ _ _, Keeps.refl _ _⟩
 case round =>
  rename_i wr
  obtain ⟨k, hk, rfl, ho, hkp⟩ := hrel
  have Hkp := Lib.hid hkp
  have hsz := hkp.size
  have hll := abvL_len s k
  clear hkp
  by_cases hlt : k < s.size
  ·have Hg := Lib.hid (show s.data.toList[k]? = some s[k] by rw [List.getElem?_eq_getElem (by rw [len_data]; exact hlt)]; rfl)
   by_cases hc : s[k] = 47
   ·have hb : ((s[k].toNat : Int) == 47) = true := by rw [byte_eq _ _ (by decide) (by decide), decide_eq_true_eq]; exact hc
    have HE := Lib.hid (show abvL s (k + 1) = abvL s k ++ [s.extract 0 k] by rw [abvL, Hg.out, if_pos (by rw [hc])])
    clear hc
    go_wp2_with (at_builtin; refine wpl_append rfl (.tmp 14) (.tmp 18) rfl tStr (ho.keep ((Keeps.refl NoB _).alloc _) (fun _ _ h => h)) (own_lit (S := fun _ => True) [s.extract 0 k] #[.string (s.extract 0 k)] rfl 1 rfl trivial (by decide)).sl rfl rfl (by simp; omega) (by simp [maxLen]; omega) (by simp; omega) ?_; intro v' w' ho' hk' hf')
    go_roundw
    case rel =>
     exact ⟨k + 1, by omega, by go_num, by rw [HE.out]; exact ho', Hkp.out.alloc _ |>.step hk' (fun g hg => Or.inr (ho.2 g hg))⟩
    case measure => simp [intOf]; omega
   ·have hb : ((s[k].toNat : Int) == 47) = false := by rw [byte_eq _ _ (by decide) (by decide), decide_eq_false_iff_not]; exact hc
    have HE := Lib.hid (show abvL s (k + 1) = abvL s k by rw [abvL, Hg.out, if_neg (fun e => hc (Option.some.inj e)), List.append_nil])
    clear hc
    go_wp2
    go_roundw
    case rel => exact ⟨k + 1, by omega, by go_num, by rw [HE.out]; exact ho, Hkp.out⟩
    case measure => simp [intOf]; omega
  ·obtain rfl : k = s.size := by omega
   go_wp2
   go_ret
   exact ⟨_, rfl, ho, Hkp.out⟩
section
variable {S : Nat -> Prop} {w : World} {p : Option Addr} {c : Nat} {l : List ByteArray}
def noFlag (x : ByteArray) : Bool := decide (x.size < 2) || !decide (x.data.toList[0]? = some 45)
theorem noFlag_facts {x : ByteArray} (h : noFlag x = true) : x.size < 2 ∨ ∃ h2 : 2 <= x.size, ((x[0].toNat : Int) != 45) = true := by
 unfold noFlag at h
 rcases Nat.lt_or_ge x.size 2 with h1 | h1
 ·exact .inl h1
 ·refine .inr ⟨h1, ?_⟩
  rw [Bool.or_eq_true, decide_eq_true_eq, Bool.not_eq_true', decide_eq_false_iff_not] at h
  have hq := h.resolve_left (by omega)
  have hg : x.data.toList[0]? = some x[0] := by rw [List.getElem?_eq_getElem (by rw [len_data]; omega)]; rfl
  have := byte_eq x[0] 45 (by decide) (by decide)
  rw [bne, this, Bool.not_eq_true', decide_eq_false_iff_not]
  intro e
  rw [hg, e] at hq
  exact hq rfl
theorem flags_none (h : SlAt encStr S w p c l) (letters : ByteArray) (hx : ∀ x, l[0]? = some x -> noFlag x = true) :
 Calls Tryz.prog 114 #[.slice p l.length c, .string letters] w fun e w' => e = .returned (.tuple #[.string ⟨#[]⟩, .slice p l.length c, .bool true]) ∧ w = w' := by
 have hcap := h.cap
 have hmax := h.max
 unfold maxLen at hmax
 cases hl : l with
 | nil =>
   simp only [List.length_nil]
   go_enter Tryz.func114, Tryz.ntmps114
   go_wp2
   refine wp_scope_goto 0 (fun _ _ => False) (fun _ _ => 0) rfl ?_ (fun _ _ h => h.elim)
   intro HJ
   clear HJ
   go_wp2
   go_step3
   go_step
   go_step
   go_wp2
   simp only [Exit.jump]
   go_ret3
   exact ⟨rfl, rfl⟩
 | cons x l' =>
   subst hl
   obtain ⟨g, o, rfl, _, _, c0⟩ := h.str (i := 0) (x := x) rfl
   rw [List.length_cons] at hcap ⊢
   have c1 : w.cell? ⟨g, o, none⟩ = some (.string x) := c0
   rcases noFlag_facts (hx x rfl) with h1 | ⟨h2, hb⟩
   ·clear hx c0 h
    go_enter Tryz.func114, Tryz.ntmps114
    go_wp2
    refine wp_scope_goto 0 (fun _ _ => False) (fun _ _ => 0) rfl ?_ (fun _ _ h => h.elim)
    intro HJ
    clear HJ
    go_wp2
    go_step3
    go_step
    go_step
    go_wp2
    simp only [Exit.jump]
    go_ret3
    exact ⟨rfl, rfl⟩
   ·clear hx c0 h
    go_enter Tryz.func114, Tryz.ntmps114
    go_wp2
    refine wp_scope_goto 0 (fun _ _ => False) (fun _ _ => 0) rfl ?_ (fun _ _ h => h.elim)
    intro HJ
    clear HJ
    go_wp2
    go_step3
    go_step
    go_step
    go_wp2
    simp only [Exit.jump]
    go_ret3
    exact ⟨rfl, rfl⟩
end
section
variable {S : Nat -> Prop} {w : World} {p : Option Addr} {c : Nat}
def FlA (w : World) (p : Option Addr) (c : Nat) (x : ByteArray) (l : List ByteArray) (letters : ByteArray) (a' : Act) (w' : World) : Prop :=
 (∃ fz : Nat -> Value, a' = { tmps := List.toArray (.slice p (l.length + 1) c :: .string letters :: fz 2 :: fz 3 :: fz 4 :: fz 5 :: fz 6 :: .string ⟨#[]⟩ :: fz 8 :: fz 9 :: fz 10 :: fz 11 :: fz 12 :: fz 13 :: fz 14 :: fz 15 :: fz 16 :: fz 17 :: fz 18 :: fz 19 :: fz 20 :: fz 21 :: fz 22 :: fz 23 :: fz 24 :: fz 25 :: fz 26 :: fz 27 :: fz 28 :: fz 29 :: fz 30 :: fz 31 :: fz 32 :: fz 33 :: fz 34 :: fz 35 :: fz 36 :: fz 37 :: fz 38 :: fz 39 :: fz 40 :: fz 41 :: fz 42 :: fz 43 :: fz 44 :: fz 45 :: fz 46 :: fz 47 :: fz 48 :: fz 49 :: fz 50 :: fz 51 :: fz 52 :: fz 53 :: fz 54 :: fz 55 :: fz 56 :: fz 57 :: fz 58 :: []), defers := [] } ∧ w' = w) ∨
 (∃ fz : Nat -> Value, a' = { tmps := List.toArray (.slice (subAt 1 p c 1) l.length (c - 1) :: .string letters :: fz 2 :: fz 3 :: fz 4 :: fz 5 :: fz 6 :: .string (x.extract 1 x.size) :: fz 8 :: fz 9 :: fz 10 :: fz 11 :: fz 12 :: fz 13 :: fz 14 :: fz 15 :: fz 16 :: fz 17 :: fz 18 :: fz 19 :: fz 20 :: fz 21 :: fz 22 :: fz 23 :: fz 24 :: fz 25 :: fz 26 :: fz 27 :: fz 28 :: fz 29 :: fz 30 :: fz 31 :: fz 32 :: fz 33 :: fz 34 :: fz 35 :: fz 36 :: fz 37 :: fz 38 :: fz 39 :: fz 40 :: fz 41 :: fz 42 :: fz 43 :: fz 44 :: fz 45 :: fz 46 :: fz 47 :: fz 48 :: fz 49 :: fz 50 :: fz 51 :: fz 52 :: fz 53 :: fz 54 :: fz 55 :: fz 56 :: fz 57 :: fz 58 :: []), defers := [] } ∧ Keeps NoB w w')
theorem FlA.one {w : World} {p : Option Addr} {c : Nat} {x : ByteArray} {l : List ByteArray} {letters : ByteArray} {a' : Act}
 (h : (fun fz : Nat -> Value => a' = { tmps := List.toArray (.slice p (l.length + 1) c :: .string letters :: fz 2 :: fz 3 :: fz 4 :: fz 5 :: fz 6 :: .string ⟨#[]⟩ :: fz 8 :: fz 9 :: fz 10 :: fz 11 :: fz 12 :: fz 13 :: fz 14 :: fz 15 :: fz 16 :: fz 17 :: fz 18 :: fz 19 :: fz 20 :: fz 21 :: fz 22 :: fz 23 :: fz 24 :: fz 25 :: fz 26 :: fz 27 :: fz 28 :: fz 29 :: fz 30 :: fz 31 :: fz 32 :: fz 33 :: fz 34 :: fz 35 :: fz 36 :: fz 37 :: fz 38 :: fz 39 :: fz 40 :: fz 41 :: fz 42 :: fz 43 :: fz 44 :: fz 45 :: fz 46 :: fz 47 :: fz 48 :: fz 49 :: fz 50 :: fz 51 :: fz 52 :: fz 53 :: fz 54 :: fz 55 :: fz 56 :: fz 57 :: fz 58 :: []), defers := [] }) (fun i => a'.tmps.toList.getD i undef)) : FlA w p c x l letters a' w := .inl ⟨fun i => a'.tmps.toList.getD i undef, h, rfl⟩
theorem FlA.two {w w' : World} {p : Option Addr} {c : Nat} {x y : ByteArray} {l : List ByteArray} {letters : ByteArray} {a' : Act} (hy : x.extract 1 x.size = y) (k : Keeps NoB w w')
 (h : (fun fz : Nat -> Value => a' = { tmps := List.toArray (.slice (subAt 1 p c 1) l.length (c - 1) :: .string letters :: fz 2 :: fz 3 :: fz 4 :: fz 5 :: fz 6 :: .string y :: fz 8 :: fz 9 :: fz 10 :: fz 11 :: fz 12 :: fz 13 :: fz 14 :: fz 15 :: fz 16 :: fz 17 :: fz 18 :: fz 19 :: fz 20 :: fz 21 :: fz 22 :: fz 23 :: fz 24 :: fz 25 :: fz 26 :: fz 27 :: fz 28 :: fz 29 :: fz 30 :: fz 31 :: fz 32 :: fz 33 :: fz 34 :: fz 35 :: fz 36 :: fz 37 :: fz 38 :: fz 39 :: fz 40 :: fz 41 :: fz 42 :: fz 43 :: fz 44 :: fz 45 :: fz 46 :: fz 47 :: fz 48 :: fz 49 :: fz 50 :: fz 51 :: fz 52 :: fz 53 :: fz 54 :: fz 55 :: fz 56 :: fz 57 :: fz 58 :: []), defers := [] }) (fun i => a'.tmps.toList.getD i undef)) : FlA w p c x l letters a' w' := .inr ⟨fun i => a'.tmps.toList.getD i undef, by subst hy; exact h, k⟩
def flMu (a' : Act) : Nat := match a'.tmps.getD 0 undef with
 | .slice _ n _ => n
 | _ => 0
theorem flags_one {x : ByteArray} {l : List ByteArray} (h : SlAt encStr S w p c (x :: l)) (letters : ByteArray) (hx2 : 2 <= x.size) (hx0 : x.data.toList[0]? = some 45) (hxd : ¬ x = ⟨#[45, 45]⟩) (hxs : x.size <= 1000)
 (hlt : ∀ b ∈ x.data.toList.drop 1, 0 <= bIdx letters b) (hl : ∀ y, l[0]? = some y -> noFlag y = true) :
 Calls Tryz.prog 114 #[.slice p (l.length + 1) c, .string letters] w fun e w' => e = .returned (.tuple #[.string (x.extract 1 x.size), .slice (subAt 1 p c 1) l.length (c - 1), .bool true]) ∧ Keeps NoB w w' := by
 have hcap := h.cap
 have hmax := h.max
 unfold maxLen at hmax
 rw [List.length_cons] at hcap
 have hsub := h.sub 1 (l.length + 1) (by omega) (by simp)
 rw [show ((x :: l).take (l.length + 1)).drop 1 = l by simp] at hsub
 have hsl1 : ∀ wx : World, (Instr.slice 29 (.slice p (l.length + 1) c) (some (.int .i64 1)) none none).run Tryz.prog wx = .ok (.slice (subAt 1 p c 1) l.length (c - 1)) wx := fun wx => run_slice_l (P := Tryz.prog) 29 9 1 Tryz.underlying29 (by kernel_rfl) p (l.length + 1) c 1 (by omega) wx (by omega)
 have hconv := fun wx => Lib.run_convert_string_bytes (P := Tryz.prog) wx 9 28 5 (x.extract 1 x.size) Tryz.underlying9 Tryz.underlying28 Tryz.underlying5
 have hxg : x.data.toList[0]? = some x[0] := by rw [List.getElem?_eq_getElem (by rw [len_data]; omega)]; rfl
 have h45 : ((x[0].toNat : Int) != 45) = false := by
  rw [hxg] at hx0
  rw [Option.some.inj hx0]; rfl
 have hdd : (x.toList == [45, 45]) = false := by
  have := toList_ne hxd
  rw [show (⟨#[45, 45]⟩ : ByteArray).toList = [45, 45] by rw [Lib.toList_data]] at this
  exact this
 have hys : (x.extract 1 x.size).size = x.size - 1 := by rw [ByteArray.size_extract]; omega
 have hyl := sub_list x 1
 rw [<- hyl] at hlt
 obtain ⟨y, hy⟩ : ∃ y, x.extract 1 x.size = y := ⟨_, rfl⟩
 rw [hy] at hys hconv hlt ⊢
 have hyz : y.size <= 1000 := by omega
 have HYS := Lib.hid hys
 clear hys
 have HY := Lib.hid hy
 have HSub := Lib.hid hsub
 have HLT := Lib.hid hlt
 have HL := Lib.hid hl
 have HC := Lib.hid hconv
 have HS1 := Lib.hid hsl1
 obtain ⟨g, o, rfl, _, _, c0⟩ := h.str (i := 0) (x := x) rfl
 have c1 : w.cell? ⟨g, o, none⟩ = some (.string x) := c0
 have C1 := Lib.hid c1
 have HI := Lib.hid fun (b : UInt8) (wx : World) => ib_any letters (b.toNat : Int) wx
 clear h hx0 hxg hxd hyl hlt hl hsub hconv hsl1 c0
 go_enter Tryz.func114, Tryz.ntmps114
 go_wp2
 refine wp_scope_goto 0 (FlA w (some ⟨g, o, none⟩) c x l letters) (fun a' _ => flMu a') rfl ?_ ?_
 ·intro HJ
  have HJ' := Lib.hid HJ
  clear HJ
  go_wp2
  go_step3
  go_step
  go_step
  refine HJ'.out _ _ ?_
  exact FlA.one rfl
 ·rintro a' w1 (⟨fz, rfl, hw⟩ | ⟨fz, rfl, hk⟩)
  ·obtain rfl : w = w1 := hw.symm
   have hconv := HC.out
   have q1 : ((l.length : Int) + 1 == 0) = false := by rw [beq_eq_false_iff_ne]; omega
   have q2 : decide ((x.size : Int) < 2) = false := by rw [decide_eq_false_iff_not]; omega
   have hl2 : y.data.toList.length = y.size := len_data y
   obtain ⟨hsl, hkc⟩ := conv_sl w y (by unfold maxLen; omega)
   have HSL := Lib.hid hsl
   have HK := Lib.hid hkc
   clear hsl hkc
   go_wp2_with fail
   clear hconv HC c1
   generalize grownCap w y.size 0 5 = cp at *
   generalize Lib.bytesWorld w 5 y = w2 at *
   have c1 := (HK.out.cell (p := ⟨g, o, none⟩) (by assumption) (fun h => h)).trans C1.out
   have hcp := HSL.out.cap
   rw [hl2] at hcp
   go_loop [42] (fun i => ∃ k : Nat, k <= y.size ∧ i = .int .i64 k) (fun i => y.size + 1 - (intOf i).toNat)
   case atStart => exact ⟨0, Nat.zero_le _, rfl⟩
   case round =>
    obtain ⟨k, hk, rfl⟩ := hrel
    by_cases hlt : k < y.size
    ·obtain ⟨b, hb⟩ : ∃ b, y.data.toList[k]? = some b := ⟨_, List.getElem?_eq_getElem (by rw [hl2]; exact hlt)⟩
     have t0 : w2.cell? ⟨w.heap.size, k, none⟩ = some (.int .u8 (b.toNat : Int)) := by
      obtain ⟨g, off, e, _, _, hcc⟩ := HSL.out.at hb
      cases e
      have := hcc 0 _ rfl
      simpa [encU8] using this
     have hbb := HLT.out b (List.mem_of_getElem? hb)
     have hI := Lib.hid (HI.out b)
     rw [show ((b.toNat : Int)).toNat.toUInt8 = b by simp] at hI
     have hneg : ¬ bIdx letters b < 0 := by omega
     clear hb hbb
     go_wp2_with (go_at_call 78; go_loud (refine (hI.out _).mono ?_); rintro e w3 ⟨rfl, rfl⟩)
     go_round
     case rel => exact ⟨k + 1, by omega, by go_num⟩
     case measure => simp [intOf]; omega
    ·obtain rfl : k = y.size := by omega
     have hsl1 := HS1.out
     have hE : (⟨#[]⟩ ++ y : ByteArray) = y := ba_eq (by simp)
     go_wp2_with fail
     go_step3
     refine ⟨rfl, FlA.two HY.out HK.out rfl, ?_⟩
     show l.length < l.length + 1
     omega
  ·have hcap2 := HSub.out.cap
   have hmax2 := HSub.out.max
   unfold maxLen at hmax2
   rw [HY.out]
   cases hl : l with
   | nil =>
     subst hl
     simp only [List.length_nil]
     go_wp2
     simp only [Exit.jump]
     go_ret3
     exact ⟨rfl, hk⟩
   | cons z l' =>
     subst hl
     obtain ⟨g2, o2, hs0, _, _, c0⟩ := (HSub.out.keepN hk).str (i := 0) (x := z) rfl
     have hs : subAt 1 (some ⟨g, o, none⟩) c 1 = some ⟨g2, o2, none⟩ := hs0
     rw [hs]
     rw [List.length_cons] at hcap2 ⊢
     have c2 : w1.cell? ⟨g2, o2, none⟩ = some (.string z) := c0
     have HK := Lib.hid hk
     have q1 : ((l'.length : Int) + 1 == 0) = false := by rw [beq_eq_false_iff_ne]; omega
     have HR := Lib.hid hs
     rcases noFlag_facts (HL.out z rfl) with h1 | ⟨h2, hb⟩
     ·have q2 : decide ((z.size : Int) < 2) = true := by rw [decide_eq_true_eq]; omega
      clear c0 hk hs hs0
      go_wp2
      simp only [Exit.jump]
      go_ret3
      refine ⟨?_, HK.out⟩
      rw [HR.out]
      rfl
     ·have q2 : decide ((z.size : Int) < 2) = false := by rw [decide_eq_false_iff_not]; omega
      clear c0 hk hs hs0
      go_wp2
      simp only [Exit.jump]
      go_ret3
      refine ⟨?_, HK.out⟩
      rw [HR.out]
      rfl
end
set_option maxHeartbeats 8000000
structure TW (W : World) (Q : Nat -> Prop) (w : World) (B F a : Nat) (d : Nds) (room calls fail : Int) (cs : List Value) : Prop where
 fx : FSx W (fun g => g = B ∨ Q g) w F a d room calls fail
 bx : Bx w B cs
 low : W.heap.size <= B
 nQ : ¬ Q B
def wkC (name : ByteArray) (F : Nat) (at' mask : Int) (iv : Value) (out err : ByteArray) (st : Int) : List Value :=
 [.string name, .pointer (some ⟨F, 0, none⟩), .int .i64 at', .int .i64 mask, iv, .string out, .string err, .int .i64 st]
section
variable {W w : World} {Q : Nat -> Prop} {B F a : Nat} {d d' : Nds} {room calls fail at' mask st : Int} {name out err : ByteArray} {iv : Value}
theorem TW.on {w' : World} {cs : List Value} (h : TW W Q w B F a d room calls fail cs) (k : Keeps NoB w w') : TW W Q w' B F a d room calls fail cs :=
 ⟨h.fx.on k, h.bx.on k, h.low, h.nQ⟩
abbrev Gd (W : World) (Q : Nat -> Prop) (B : Nat) : Nat -> Prop := fun g => ¬ (g < W.heap.size ∨ g = B ∨ Q g)
abbrev Lw (W : World) (Q : Nat -> Prop) : Nat -> Prop := fun g => W.heap.size <= g ∧ ¬ Q g
theorem TW.call {cs : List Value} {f : Nat} {args : Array Value} {V : Value} {calls' : Int} (h : TW W Q w B F a d room calls fail cs) (hc : ∀ N : Nat -> Prop, FSt N w F a d room calls fail -> Calls Tryz.prog f args w (FTo N w F a d' room calls' fail V)) :
 Calls Tryz.prog f args w fun e w' => e = .returned V ∧ TW W Q w' B F a d' room calls' fail cs ∧ Keeps (Gd W Q B) w w' := by
 refine (h.fx.call hc).mono ?_
 rintro e w' ⟨rfl, h1, h2⟩
 exact ⟨rfl, ⟨h1, h.fx.kept h.bx h2 (.inl rfl), h.low, h.nQ⟩, h2⟩
theorem TW.put {cs : List Value} (h : TW W Q w B F a d room calls fail cs) (i : Nat) (v : Value) : TW W Q (w.setCell ⟨B, i, none⟩ v) B F a d room calls fail (cs.set i v) :=
 ⟨h.fx.turn (keeps_set w ⟨B, i, none⟩ v) (fun g hg => ⟨.inl hg, hg ▸ h.low⟩), h.bx.put i v, h.low, h.nQ⟩
theorem gd_low {w' : World} (k : Keeps (Gd W Q B) w w') : Keeps (Lw W Q) w w' := k.mono fun g _ hg =>
 ⟨Nat.le_of_not_lt fun h => hg (.inl h), fun h => hg (.inr (.inr h))⟩
theorem wrong_ok (s : Int) (w : World) : Calls Tryz.prog 57 #[.pointer (some ⟨B, 0, none⟩), .int .i64 0, .int .i64 s] w fun e w' => e = .returned (.bool false) ∧ w = w' := by
 go_enter Tryz.func57, Tryz.ntmps57
 go_wp2_with fail
 go_ret
 exact ⟨rfl, rfl⟩
theorem line_plain (h : TW W Q w B F a d room calls fail (wkC name F at' mask iv out err st)) (got s nm : ByteArray) (hsz : s.size <= 4294967280) (hnm : nm.size <= 4294967280) (hg : bIdx got 108 < 0) {n ik im il ih iz : Int} (hn : (thrR d at' s false).1.node = n)
 (hV : statV d (thrR d at' s false) = .agg #[.int .i64 ik, .int .i64 im, .int .i64 il, .int .i64 ih, .int .i64 iz]) (hE : statE d (thrR d at' s false) = 0) :
 Calls Tryz.prog 125 #[.pointer (some ⟨B, 0, none⟩), .string got, .string s, .string nm] w fun e w' => e = .returned (.tuple #[.string (nm ++ ⟨#[10]⟩), .int .i64 0]) ∧ Keeps NoB w w' := by
 have HT := Lib.hid h
 have HV := Lib.hid hV
 have HE := Lib.hid hE
 subst hn
 have HIb := Lib.hid (fun wx => ib_any got 108 wx)
 rw [show ((108 : Int)).toNat.toUInt8 = 108 from rfl] at HIb
 obtain ⟨gi, hgi⟩ : ∃ gi, bIdx got 108 = gi := ⟨_, rfl⟩
 rw [hgi] at HIb hg
 clear h hV hE hgi
 obtain ⟨n, hn⟩ : ∃ n, (thrR d at' s false).1.node = n := ⟨_, rfl⟩
 have HSs := Lib.hid (show nm.size + 1 <= 9223372036854775807 by omega)
 go_enter Tryz.func125, Tryz.ntmps125
 have HSt := Lib.hid (fun (w1 : World) (k : Keeps NoB w w1) => (HT.out.fx.on k).asks fun N hN => stat_any hN at' mask s false hsz)
 rw [HV.out, HE.out, hn] at HSt
 clear hn
 have f0 := HT.out.bx.cell 1 _ rfl
 have b0 := HT.out.bx.cell 2 _ rfl
 have b1 := HT.out.bx.cell 3 _ rfl
 have fl := HT.out.bx.lt
 go_upto_region 1 with fail
 go_cut [10, 11, 12] from 10 to 30 (fun x y z wx => ∃ G : Nat, w.heap.size <= G ∧ x = .int .i64 n ∧ y = .pointer (some ⟨G, 0, none⟩) ∧ z = .int .i64 0 ∧ Bx wx G [.int .i64 ik, .int .i64 im, .int .i64 il, .int .i64 ih, .int .i64 iz] ∧ Keeps NoB w wx)
 case first =>
  have kr := Keeps.refl NoB w
  have krd := kr.drew
  have d0 := (HT.out.on krd).bx.cell 1 _ rfl
  have d1 := (HT.out.on krd).bx.cell 2 _ rfl
  have d2 := (HT.out.on krd).bx.cell 3 _ rfl
  go_region_held3 (fun wz => wz.cell? ⟨B, 1, none⟩ = some (.pointer (some ⟨F, 0, none⟩)) ∧ wz.cell? ⟨B, 2, none⟩ = some (.int .i64 at') ∧ wz.cell? ⟨B, 3, none⟩ = some (.int .i64 mask) ∧ Keeps NoB w wz) (refine ⟨?_, ?_, ?_, ?_⟩ <;> first | with_reducible assumption | (with_reducible refine (HT.out.on ?_).bx.cell 1 _ rfl; (repeat (first | with_reducible assumption | (with_reducible exact Keeps.refl _ _) | (with_reducible refine Keeps.drew ?_) | (with_reducible refine Keeps.drewN ?_ _) | (with_reducible refine Keeps.alloc ?_ _) | (with_reducible refine Keeps.setCell ?_ (by first | exact Or.inl rfl | exact Or.inr (Nat.le_refl _) | exact Or.inr (by first | (simp; done) | (simp; omega))) _))); done) | (with_reducible refine (HT.out.on ?_).bx.cell 2 _ rfl; (repeat (first | with_reducible assumption | (with_reducible exact Keeps.refl _ _) | (with_reducible refine Keeps.drew ?_) | (with_reducible refine Keeps.drewN ?_ _) | (with_reducible refine Keeps.alloc ?_ _) | (with_reducible refine Keeps.setCell ?_ (by first | exact Or.inl rfl | exact Or.inr (Nat.le_refl _) | exact Or.inr (by first | (simp; done) | (simp; omega))) _))); done) | (with_reducible refine (HT.out.on ?_).bx.cell 3 _ rfl; (repeat (first | with_reducible assumption | (with_reducible exact Keeps.refl _ _) | (with_reducible refine Keeps.drew ?_) | (with_reducible refine Keeps.drewN ?_ _) | (with_reducible refine Keeps.alloc ?_ _) | (with_reducible refine Keeps.setCell ?_ (by first | exact Or.inl rfl | exact Or.inr (Nat.le_refl _) | exact Or.inr (by first | (simp; done) | (simp; omega))) _))); done) | ((repeat (first | with_reducible assumption | (with_reducible exact Keeps.refl _ _) | (with_reducible refine Keeps.drew ?_) | (with_reducible refine Keeps.drewN ?_ _) | (with_reducible refine Keeps.alloc ?_ _) | (with_reducible refine Keeps.setCell ?_ (by first | exact Or.inl rfl | exact Or.inr (Nat.le_refl _) | exact Or.inr (by first | (simp; done) | (simp; omega))) _))); done))
   (first | (go_at_call 24; refine (HSt.out _ (by (repeat (first | with_reducible assumption | (with_reducible exact Keeps.refl _ _) | (with_reducible refine Keeps.drew ?_) | (with_reducible refine Keeps.drewN ?_ _) | (with_reducible refine Keeps.alloc ?_ _) | (with_reducible refine Keeps.setCell ?_ (by first | exact Or.inl rfl | exact Or.inr (Nat.le_refl _) | exact Or.inr (by first | (simp; done) | (simp; omega))) _))))).mono ?_; rintro e w2 ⟨rfl, hk2⟩; have zky : Keeps NoB w w2 := Keeps.trans (by (repeat (first | with_reducible assumption | (with_reducible exact Keeps.refl _ _) | (with_reducible refine Keeps.drew ?_) | (with_reducible refine Keeps.drewN ?_ _) | (with_reducible refine Keeps.alloc ?_ _) | (with_reducible refine Keeps.setCell ?_ (by first | exact Or.inl rfl | exact Or.inr (Nat.le_refl _) | exact Or.inr (by first | (simp; done) | (simp; omega))) _)))) hk2; have zs := zky.size; have z0 := (HT.out.on zky).bx.cell 1 _ rfl; have z1 := (HT.out.on zky).bx.cell 2 _ rfl; have z2 := (HT.out.on zky).bx.cell 3 _ rfl; (try (have yb := Bx.newD hk2; have y0 := yb.cell 0 _ rfl; have y1 := yb.cell 1 _ rfl; have y2 := yb.cell 2 _ rfl; have y3 := yb.cell 3 _ rfl; have y4 := yb.cell 4 _ rfl; have yf := yb.fz))))
  all_goals (go_wp2_with fail; go_meet; refine ⟨_, ?_, rfl, rfl, rfl, ?_, ?_⟩)
  all_goals first
   | exact Nat.le_refl _
   | exact zs
   | (with_reducible exact Bx.new (Keeps.refl NoB _))
   | (exact ((((yb.put 0 _).put 1 _).put 2 _).put 3 _).put 4 _)
   | ((repeat (first | with_reducible assumption | (with_reducible exact Keeps.refl _ _) | (with_reducible refine Keeps.drew ?_) | (with_reducible refine Keeps.drewN ?_ _) | (with_reducible refine Keeps.alloc ?_ _) | (with_reducible refine Keeps.setCell ?_ (by first | exact Or.inl rfl | exact Or.inr (Nat.le_refl _) | exact Or.inr (by first | (simp; done) | (simp; omega))) _))); done)
   | skip
 case rest =>
  obtain ⟨HIB, hG, rfl, rfl, rfl, HI, hk⟩ := hcut
  replace HI := Lib.hid HI
  have HK := Lib.hid hk
  have HG := Lib.hid hG
  replace HT := Lib.hid (HT.out.on hk)
  clear f0 b0 b1 fl HSt hG hk
  go_wp2_with (go_at_call 78; go_loud (refine (HIb.out _).mono ?_); rintro e w3 ⟨rfl, rfl⟩)
  go_ret2
  exact ⟨rfl, HK.out⟩
end
def outL (o : ByteArray) (l : List Ent) : ByteArray := l.foldl (fun o e => o ++ (e.1 ++ ⟨#[10]⟩)) o
theorem outL_snoc (o : ByteArray) {l : List Ent} {k : Nat} {x : Ent} (h : l[k]? = some x) : outL o (l.take (k + 1)) = outL o (l.take k) ++ (x.1 ++ ⟨#[10]⟩) := by
 unfold outL
 rw [List.take_add_one, h, List.foldl_append]
 rfl
theorem app_size (a b : ByteArray) : (a ++ b).size = a.size + b.size := by simp
theorem outL_size (l : List Ent) (hl : ∀ e ∈ l, e.1.size <= 255) : ∀ o, (outL o l).size <= o.size + 256 * l.length := by
 induction l with
 | nil => intro o; simp [outL]
 | cons x l ih =>
   intro o
   have h1 := ih (fun e he => hl e (List.mem_cons_of_mem _ he)) (o ++ (x.1 ++ ⟨#[10]⟩))
   have h2 := hl x List.mem_cons_self
   have e : outL o (x :: l) = outL (o ++ (x.1 ++ ⟨#[10]⟩)) l := rfl
   rw [e, List.length_cons]
   rw [app_size, app_size, show (⟨#[10]⟩ : ByteArray).size = 1 from rfl] at h1
   omega
section
variable {W w : World} {Q : Nat -> Prop} {B F a : Nat} {d d' : Nds} {room calls fail at' mask st : Int} {name out err : ByteArray} {iv : Value}
structure LsJ (W : World) (Q : Nat -> Prop) (w0 wr : World) (B F a : Nat) (d : Nds) (room calls fail : Int) (cs : List Value) (v : Value) (es : List Ent) : Prop where
 tw : TW W Q wr B F a d room calls fail cs
 own : Own encEnt 193 (fun g => w0.heap.size <= g) wr v es
 keeps : Keeps (Lw W Q) w0 wr
theorem LsJ.on {w0 wr w' : World} {cs : List Value} {v : Value} {es : List Ent} (h : LsJ W Q w0 wr B F a d room calls fail cs v es) (k : Keeps NoB wr w') : LsJ W Q w0 w' B F a d room calls fail cs v es :=
 ⟨h.tw.on k, h.own.keep k (fun _ _ h => h), h.keeps.step k (fun _ h => h.elim)⟩
theorem LsJ.put {w0 wr : World} {cs : List Value} {v : Value} {es : List Ent} (h : LsJ W Q w0 wr B F a d room calls fail cs v es) (hB : B < w0.heap.size) (i : Nat) (u : Value) : LsJ W Q w0 (wr.setCell ⟨B, i, none⟩ u) B F a d room calls fail (cs.set i u) v es :=
 ⟨h.tw.put i u, h.own.keep (keeps_set wr ⟨B, i, none⟩ u) (fun g hg e => by have := h.own.2 g hg; have e' : g = B := e; omega), h.keeps.step (keeps_set wr ⟨B, i, none⟩ u) (fun g e => .inl (by have e' : g = B := e; subst e'; exact ⟨h.tw.low, h.tw.nQ⟩))⟩
theorem list_plain (h : TW W Q w B F a d room calls fail (wkC name F at' mask iv out err st)) (got s : ByteArray) (hg : bIdx got 108 < 0) (es : List Ent) (hle : lstE d (thrR d at' s true) = 0) (hes : (nd d (thrR d at' s true).1.node).ents = es)
 (each : ∀ e ∈ es, e.1.size <= 255 ∧ 1 <= e.1.size ∧ ¬ e.1.data.toList[0]? = some 46 ∧ statE d (thrR d at' (joinB s e.1) false) = 0) (hn : es.length <= 1000) (hs : s.size <= 1000) (ho : out.size <= 1000) :
 Calls Tryz.prog 126 #[.pointer (some ⟨B, 0, none⟩), .string got, .string s] w fun e w' => e = .returned (.int .i64 0) ∧ TW W Q w' B F a d room calls fail (wkC name F at' mask iv (outL out es) err st) ∧ Keeps (Lw W Q) w w' := by
 have HT := Lib.hid h
 have HLs := Lib.hid (fun (w1 : World) (k : Keeps NoB w w1) => (h.fx.on k).asks fun N hN => fsList_any hN at' mask s (by omega) (nd_ents_len hN.pd.small))
 rw [hle, hes] at HLs
 simp only [if_true] at HLs
 have HEach := Lib.hid each
 have HSz := Lib.hid (fun k => outL_size (es.take k) (fun e he => (each e (List.mem_of_mem_take he)).1) out)
 have hB := h.bx.lt
 clear h hle hes each
 have f0 := HT.out.bx.cell 1 _ rfl
 have b0 := HT.out.bx.cell 2 _ rfl
 have b1 := HT.out.bx.cell 3 _ rfl
 go_enter Tryz.func126, Tryz.ntmps126
 go_upto_region 1 with fail
 go_cut [7, 8] from 13 to 25 (fun x y wx => y = .int .i64 0 ∧ LsJ W Q w wx B F a d room calls fail (wkC name F at' mask iv out err st) x es)
 case first =>
  have kr := Keeps.refl NoB w
  have krd := kr.drew
  have d0 := (HT.out.on krd).bx.cell 1 _ rfl
  have d1 := (HT.out.on krd).bx.cell 2 _ rfl
  have d2 := (HT.out.on krd).bx.cell 3 _ rfl
  go_region_held3 (fun wz => wz.cell? ⟨B, 1, none⟩ = some (.pointer (some ⟨F, 0, none⟩)) ∧ wz.cell? ⟨B, 2, none⟩ = some (.int .i64 at') ∧ wz.cell? ⟨B, 3, none⟩ = some (.int .i64 mask) ∧ Keeps NoB w wz) (refine ⟨?_, ?_, ?_, ?_⟩ <;> first | with_reducible assumption | (with_reducible refine (HT.out.on ?_).bx.cell 1 _ rfl; (repeat (first | with_reducible assumption | (with_reducible exact Keeps.refl _ _) | (with_reducible refine Keeps.drew ?_) | (with_reducible refine Keeps.drewN ?_ _) | (with_reducible refine Keeps.alloc ?_ _) | (with_reducible refine Keeps.setCell ?_ (by first | exact Or.inl rfl | exact Or.inr (Nat.le_refl _) | exact Or.inr (by first | (simp; done) | (simp; omega))) _))); done) | (with_reducible refine (HT.out.on ?_).bx.cell 2 _ rfl; (repeat (first | with_reducible assumption | (with_reducible exact Keeps.refl _ _) | (with_reducible refine Keeps.drew ?_) | (with_reducible refine Keeps.drewN ?_ _) | (with_reducible refine Keeps.alloc ?_ _) | (with_reducible refine Keeps.setCell ?_ (by first | exact Or.inl rfl | exact Or.inr (Nat.le_refl _) | exact Or.inr (by first | (simp; done) | (simp; omega))) _))); done) | (with_reducible refine (HT.out.on ?_).bx.cell 3 _ rfl; (repeat (first | with_reducible assumption | (with_reducible exact Keeps.refl _ _) | (with_reducible refine Keeps.drew ?_) | (with_reducible refine Keeps.drewN ?_ _) | (with_reducible refine Keeps.alloc ?_ _) | (with_reducible refine Keeps.setCell ?_ (by first | exact Or.inl rfl | exact Or.inr (Nat.le_refl _) | exact Or.inr (by first | (simp; done) | (simp; omega))) _))); done) | ((repeat (first | with_reducible assumption | (with_reducible exact Keeps.refl _ _) | (with_reducible refine Keeps.drew ?_) | (with_reducible refine Keeps.drewN ?_ _) | (with_reducible refine Keeps.alloc ?_ _) | (with_reducible refine Keeps.setCell ?_ (by first | exact Or.inl rfl | exact Or.inr (Nat.le_refl _) | exact Or.inr (by first | (simp; done) | (simp; omega))) _))); done))
   (first | (go_at_call 175; refine (HLs.out _ (by (repeat (first | with_reducible assumption | (with_reducible exact Keeps.refl _ _) | (with_reducible refine Keeps.drew ?_) | (with_reducible refine Keeps.drewN ?_ _) | (with_reducible refine Keeps.alloc ?_ _) | (with_reducible refine Keeps.setCell ?_ (by first | exact Or.inl rfl | exact Or.inr (Nat.le_refl _) | exact Or.inr (by first | (simp; done) | (simp; omega))) _))))).mono ?_; rintro e w2 ⟨v, rfl, ho2, hk2⟩; have zky : Keeps NoB w w2 := Keeps.trans (by (repeat (first | with_reducible assumption | (with_reducible exact Keeps.refl _ _) | (with_reducible refine Keeps.drew ?_) | (with_reducible refine Keeps.drewN ?_ _) | (with_reducible refine Keeps.alloc ?_ _) | (with_reducible refine Keeps.setCell ?_ (by first | exact Or.inl rfl | exact Or.inr (Nat.le_refl _) | exact Or.inr (by first | (simp; done) | (simp; omega))) _)))) hk2; have z0 := (HT.out.on zky).bx.cell 1 _ rfl; have z1 := (HT.out.on zky).bx.cell 2 _ rfl; have z2 := (HT.out.on zky).bx.cell 3 _ rfl))
  all_goals (go_wp2_with fail; go_meet; refine ⟨rfl, HT.out.on zky, ho2.mono (fun g _ hg => hg), zky.of_none⟩)
 case rest =>
  obtain ⟨rfl, hJ⟩ := hcut
  clear f0 b0 b1 HLs
  obtain ⟨vp, vc, rfl, _⟩ := hJ.own.sl
  have HJ0 := Lib.hid hJ
  clear hJ
  go_wp2_with fail
  go_loopw [28] (fun i wr => ∃ k : Nat, k <= es.length ∧ i = .int .i64 k ∧ LsJ W Q w wr B F a d room calls fail (wkC name F at' mask iv (outL out (es.take k)) err st) (.slice vp es.length vc) es) (fun i _ => es.length + 1 - (intOf i).toNat)
  case atStart => exact ⟨0, Nat.zero_le _, rfl, HJ0.out⟩
  case round =>
   obtain ⟨k, hk, rfl, hJ⟩ := hrel
   have HJ := Lib.hid hJ
   clear hJ HJ0
   by_cases hlt : k < es.length
   case neg =>
    obtain rfl : k = es.length := by omega
    go_wp2_with fail
    go_ret
    refine ⟨rfl, ?_, HJ.out.keeps⟩
    have := HJ.out.tw
    rw [List.take_length] at this
    exact this
   obtain ⟨x, hx⟩ : ∃ x, es[k]? = some x := ⟨_, List.getElem?_eq_getElem hlt⟩
   obtain ⟨hx1, hx2, hx3, hx4⟩ := HEach.out x (List.mem_of_getElem? hx)
   have hb : ((x.1[0].toNat : Int) == 46) = false := by
    rw [byte_eq _ _ (by decide) (by decide), decide_eq_false_iff_not]
    intro e
    refine hx3 ?_
    rw [List.getElem?_eq_getElem (by rw [len_data]; omega)]
    exact congrArg some e
   obtain ⟨vg, vo, hvp, _, _, c0, c1⟩ := (HJ.out.own.at).ent hx
   subst hvp
   have hcp := (HJ.out.own.at).cap
   have hmx := (HJ.out.own.at).max
   unfold maxLen at hmx
   have HS := Lib.hid (outL_snoc out hx)
   have hsz := HSz.out k
   have htk : (es.take k).length <= 1000 := by rw [List.length_take]; omega
   obtain ⟨o, hoo⟩ : ∃ o, outL out (es.take k) = o := ⟨_, rfl⟩
   rw [hoo] at HJ HS hsz
   obtain ⟨X, hX⟩ : ∃ X, thrR d at' (joinB s x.1) false = X := ⟨_, rfl⟩
   obtain ⟨ik, im, il, ih, iz, hV⟩ : ∃ ik im il ih iz : Int, statV d X = .agg #[.int .i64 ik, .int .i64 im, .int .i64 il, .int .i64 ih, .int .i64 iz] := by
    obtain ⟨N, _, _, hN⟩ := HJ.out.tw.fx.ex
    obtain ⟨k, m, l, hh, z, h, _⟩ := statV_shape hN X
    exact ⟨k, m, l, hh, z, h⟩
   have hjz := joinB_size s x.1
   have HLn := Lib.hid (fun (w1 : World) (k : Keeps NoB wr w1) => line_plain (HJ.out.tw.on k) got (joinB s x.1) x.1 (by omega) (by omega) hg rfl (by rw [hX]; exact hV) (by rw [hX, <- hX]; exact hx4))
   have HJn := Lib.hid (fun w1 : World => join_any s x.1 w1 (by omega) (by omega))
   obtain ⟨jn, hjn⟩ : ∃ jn, joinB s x.1 = jn := ⟨_, rfl⟩
   rw [hjn] at HLn HJn
   obtain ⟨xn, xi⟩ := x
   simp only at c0 c1 HLn HJn HS hx1 hx2 hb
   clear hx hx3 hx4 hV hX hoo hjn hjz
   have HXz : Hid (xn.size <= 255 ∧ o.size <= 300000) := ⟨hx1, by omega⟩
   go_upto_region 6 with fail
   have HE := Lib.hid (Bx.new (Keeps.refl NoB (wr.alloc (.cells #[.string xn, .int .i64 xi] 193))))
   have HKe := Lib.hid ((Keeps.refl NoB wr).alloc (.cells #[.string xn, .int .i64 xi] 193))
   generalize wr.alloc (.cells #[.string xn, .int .i64 xi] 193) = wa at *
   generalize wr.heap.size = EB at *
   have e0 := HE.out.cell 0 _ rfl
   go_cut [11, 12] from 41 to 52 (fun x y wx => x = .string (xn ++ ⟨#[10]⟩) ∧ y = .int .i64 0 ∧ Keeps NoB wa wx)
   case first =>
    have d0 := (HE.out.on (Keeps.refl NoB wa).drew).cell 0 _ rfl
    go_region_held3 (fun wz => wz.cell? ⟨EB, 0, none⟩ = some (.string xn) ∧ Keeps NoB wa wz) (refine ⟨?_, ?_⟩ <;> first | with_reducible assumption | (with_reducible refine (HE.out.on ?_).cell 0 _ rfl; (repeat (first | with_reducible assumption | (with_reducible exact Keeps.refl _ _) | (with_reducible refine Keeps.drew ?_) | (with_reducible refine Keeps.drewN ?_ _) | (with_reducible refine Keeps.alloc ?_ _) | (with_reducible refine Keeps.setCell ?_ (by first | exact Or.inl rfl | exact Or.inr (Nat.le_refl _) | exact Or.inr (by first | (simp; done) | (simp; omega))) _))); done) | ((repeat (first | with_reducible assumption | (with_reducible exact Keeps.refl _ _) | (with_reducible refine Keeps.drew ?_) | (with_reducible refine Keeps.drewN ?_ _) | (with_reducible refine Keeps.alloc ?_ _) | (with_reducible refine Keeps.setCell ?_ (by first | exact Or.inl rfl | exact Or.inr (Nat.le_refl _) | exact Or.inr (by first | (simp; done) | (simp; omega))) _))); done))
     (first | (go_at_call 120; refine (HJn.out _).mono ?_; rintro e w2 ⟨rfl, hw2⟩; obtain rfl : _ = w2 := hw2.symm) | (go_at_call 125; refine (HLn.out _ (HKe.out.trans (by (repeat (first | with_reducible assumption | (with_reducible exact Keeps.refl _ _) | (with_reducible refine Keeps.drew ?_) | (with_reducible refine Keeps.drewN ?_ _) | (with_reducible refine Keeps.alloc ?_ _) | (with_reducible refine Keeps.setCell ?_ (by first | exact Or.inl rfl | exact Or.inr (Nat.le_refl _) | exact Or.inr (by first | (simp; done) | (simp; omega))) _)))))).mono ?_; rintro e w2 ⟨rfl, hk2⟩; have zky : Keeps NoB wa w2 := Keeps.trans (by (repeat (first | with_reducible assumption | (with_reducible exact Keeps.refl _ _) | (with_reducible refine Keeps.drew ?_) | (with_reducible refine Keeps.drewN ?_ _) | (with_reducible refine Keeps.alloc ?_ _) | (with_reducible refine Keeps.setCell ?_ (by first | exact Or.inl rfl | exact Or.inr (Nat.le_refl _) | exact Or.inr (by first | (simp; done) | (simp; omega))) _)))) hk2; have z0 := (HE.out.on zky).cell 0 _ rfl))
    all_goals (go_wp2_with fail; go_meet; exact ⟨rfl, rfl, zky⟩)
   case rest =>
    obtain ⟨rfl, rfl, hk2⟩ := hcut
    have HJ2 := Lib.hid (HJ.out.on (HKe.out.trans hk2))
    have hsum : (xn ++ ⟨#[10]⟩ : ByteArray).size <= 256 := by rw [app_size, show (⟨#[10]⟩ : ByteArray).size = 1 from rfl]; omega
    have HEq := Lib.hid (show outL out (es.take (k + 1)) = o ++ (xn ++ ⟨#[10]⟩) from HS.out)
    obtain ⟨ln, hln⟩ : ∃ ln, (xn ++ ⟨#[10]⟩ : ByteArray) = ln := ⟨_, rfl⟩
    rw [hln] at hsum HEq ⊢
    clear hln c0 c1 e0 hk2 HJ HKe HE HLn HJn HS
    have a5 := HJ2.out.tw.bx.cell 5 _ rfl
    have af := HJ2.out.tw.bx.fz 5
    have al := HJ2.out.tw.bx.lt
    have hoz : o.size <= 300000 := by omega
    go_wp2_with fail
    go_roundw
    case rel =>
     refine ⟨k + 1, by omega, by go_num, ?_⟩
     rw [HEq.out]
     exact HJ2.out.put hB 5 (.string (o ++ ln))
    case measure => simp [intOf]; omega
end
end Go.Proofs.YtnaenhekjdmlaaaGreatDoor
namespace Go.Proofs.YtnaenhekjdmlaaaGreatDoor
def tA0 : Nds := newD
def tA1 : Nds := [Nd.gone, ⟨2, 493, 0, ⟨#[]⟩, [(⟨#[97]⟩, 2)]⟩, ⟨2, 511, 0, ⟨#[]⟩, []⟩]
def tA2 : Nds := [Nd.gone, ⟨2, 493, 0, ⟨#[]⟩, [(⟨#[97]⟩, 2)]⟩, ⟨2, 511, 0, ⟨#[]⟩, [(⟨#[98]⟩, 3)]⟩, ⟨2, 511, 0, ⟨#[]⟩, []⟩]
theorem orFail_ok {calls fail : Int} {d : Nds} (x : Nds × Int) (h : ¬ calls = fail) : orFail calls fail d x = x := by
 unfold orFail callE
 rw [if_neg h, if_neg (by simp)]
theorem tA_find_a0 (fl : Bool) : fndR tA0 1 ⟨#[97]⟩ fl = (⟨0, 1, ⟨#[97]⟩⟩, 0) := by
 have n1 : nd tA0 1 = rootNd := by rw [tA0, nd_new, if_pos rfl]
 have := find_1 (d := tA0) (up := upC tA0) (s := ⟨#[97]⟩) (a := ⟨#[97]⟩) (follow := fl) (by decide) (by decide) (by decide) (by decide) (by decide) (by decide) (by decide) (by decide) (fun k hk => by rw [n1] at hk; cases hk) 40 0
 rw [n1] at this
 exact this
theorem tA_thr_a0 : (thrR tA0 1 ⟨#[97]⟩ true).1.node = 0 ∧ statE tA0 (thrR tA0 1 ⟨#[97]⟩ true) = 12 ∧ statV tA0 (thrR tA0 1 ⟨#[97]⟩ true) = .agg #[.int .i64 0, .int .i64 0, .int .i64 0, .int .i64 0, .int .i64 0] := by
 have : thrR tA0 1 ⟨#[97]⟩ true = (.no, 12) := by
  unfold thrR
  rw [tA_find_a0]
  unfold thereR
  rw [if_neg (by simp), if_pos rfl]
 rw [this]
 exact ⟨rfl, rfl, rfl⟩
theorem tA_mk1 (hI : DInv tA0) (hcl : NoGarb tA0) : (orFail 0 (-1) tA0 (mkdirR tA0 100 1 0 ⟨#[97]⟩ 511)).1 = tA1 := by
 rw [orFail_ok _ (by decide)]
 have : tA0 = ancD [] 0 := rfl
 rw [this] at hI hcl ⊢
 exact anc_step hI hcl (by decide) (by decide) (by decide) (by decide) (by decide) (by decide) (by decide) (by decide)
theorem tA_find_b1 (fl : Bool) : fndR tA1 1 ⟨#[97, 47, 98]⟩ fl = (⟨0, 2, ⟨#[98]⟩⟩, 0) := by
 have n2 : nd tA1 2 = ⟨2, 511, 0, ⟨#[]⟩, []⟩ := rfl
 have := find_2 (d := tA1) (up := upC tA1) (s := ⟨#[97, 47, 98]⟩) (a := ⟨#[97]⟩) (b := ⟨#[98]⟩) (follow := fl) (by decide) (by decide) (by decide) (by decide) (by decide) (by decide) (by decide) (by decide) (by decide) (by decide) (by decide) (k := 2) (by decide) (by decide) (by decide) (by decide) (fun j hk => by rw [n2] at hk; cases hk) 40 0
 rw [n2] at this
 exact this
theorem tA_thr_b1 : (thrR tA1 1 ⟨#[97, 47, 98]⟩ true).1.node = 0 ∧ statE tA1 (thrR tA1 1 ⟨#[97, 47, 98]⟩ true) = 12 ∧ statV tA1 (thrR tA1 1 ⟨#[97, 47, 98]⟩ true) = .agg #[.int .i64 0, .int .i64 0, .int .i64 0, .int .i64 0, .int .i64 0] := by
 have : thrR tA1 1 ⟨#[97, 47, 98]⟩ true = (.no, 12) := by
  unfold thrR
  rw [tA_find_b1]
  unfold thereR
  rw [if_neg (by simp), if_pos rfl]
 rw [this]
 exact ⟨rfl, rfl, rfl⟩
theorem tA_mk2 (hI : DInv tA1) (hcl : NoGarb tA1) : orFail 1 (-1) tA1 (mkdirR tA1 100 1 0 ⟨#[97, 47, 98]⟩ 511) = (tA2, 0) := by
 rw [orFail_ok _ (by decide)]
 have hmy : mayE tA1 2 128 = 0 := by decide
 have hfr : freeR tA1 1 ⟨#[97, 47, 98]⟩ true = (⟨0, 2, ⟨#[98]⟩⟩, 0) := by
  unfold freeR
  rw [tA_find_b1, if_neg (by simp), if_neg (by simp), if_neg (by simp), hmy]
 obtain ⟨g1, g2, g3⟩ := made_go (d := tA1) (room := 100) (kind := 2) (m := freshM 511 0) (s := ⟨#[]⟩) (at' := 2) (nm := ⟨#[98]⟩) hI (by decide) (by decide) (by decide) (by decide) (by decide) (by decide) (by decide) (by decide) (by decide) (by decide)
 obtain ⟨h1, h2, h3⟩ := made_ok (p := ⟨0, 2, ⟨#[98]⟩⟩) hI hcl g1 g2 g3
 unfold mkdirR
 rw [hfr, if_neg (by simp)]
 refine Prod.ext (nds_ext (by rw [h2]; rfl) fun j => ?_) h1
 show nd (madeR tA1 100 ⟨0, 2, ⟨#[98]⟩⟩ 2 (freshM 511 0) ⟨#[]⟩).1 j = nd tA2 j
 rw [h3, show freshM 511 0 = 511 by decide]
 by_cases j0 : 0 <= j
 ·obtain ⟨i, rfl⟩ : ∃ i : Nat, j = i := ⟨j.toNat, by omega⟩
  match i with
  | 0 => rfl
  | 1 => rfl
  | 2 => rfl
  | 3 => rfl
  | i + 4 =>
    rw [if_neg (by show ¬ ((i + 4 : Nat) : Int) = ((3 : Nat) : Int); omega), if_neg (by show ¬ ((i + 4 : Nat) : Int) = 2; omega), nd_gone (by show ¬ (0 <= ((i + 4 : Nat) : Int) ∧ ((i + 4 : Nat) : Int).toNat < 3); omega), nd_gone (by show ¬ (0 <= ((i + 4 : Nat) : Int) ∧ ((i + 4 : Nat) : Int).toNat < 4); omega)]
 ·rw [if_neg (by show ¬ j = ((3 : Nat) : Int); omega), if_neg (by show ¬ j = 2; omega), nd_gone (by omega), nd_gone (by omega)]
theorem tA_thr_a2 (fl : Bool) : thrR tA2 1 ⟨#[97]⟩ fl = (⟨2, 1, ⟨#[97]⟩⟩, 0) := by
 have n1 : nd tA2 1 = ⟨2, 493, 0, ⟨#[]⟩, [(⟨#[97]⟩, 2)]⟩ := rfl
 have := find_1 (d := tA2) (up := upC tA2) (s := ⟨#[97]⟩) (a := ⟨#[97]⟩) (follow := fl) (by decide) (by decide) (by decide) (by decide) (by decide) (by decide) (by decide) (by decide) (fun k hk => by
  rw [n1] at hk
  have : k = 2 := (Option.some.inj ((show entGet [((⟨#[97]⟩ : ByteArray), (2 : Int))] ⟨#[97]⟩ = some 2 by decide).symm.trans hk)).symm
  rw [this]; decide) 40 0
 rw [n1, show entGet [((⟨#[97]⟩ : ByteArray), (2 : Int))] ⟨#[97]⟩ = some 2 by decide] at this
 unfold thrR fndR
 rw [this]
 unfold thereR
 rw [if_neg (by simp), if_neg (by simp)]
 rfl
theorem tA_thr_b2 (fl : Bool) : thrR tA2 1 ⟨#[97, 47, 98]⟩ fl = (⟨3, 2, ⟨#[98]⟩⟩, 0) := by
 have n2 : nd tA2 2 = ⟨2, 511, 0, ⟨#[]⟩, [(⟨#[98]⟩, 3)]⟩ := rfl
 have := find_2 (d := tA2) (up := upC tA2) (s := ⟨#[97, 47, 98]⟩) (a := ⟨#[97]⟩) (b := ⟨#[98]⟩) (follow := fl) (by decide) (by decide) (by decide) (by decide) (by decide) (by decide) (by decide) (by decide) (by decide) (by decide) (by decide) (k := 2) (by decide) (by decide) (by decide) (by decide) (fun j hk => by
  rw [n2] at hk
  have : j = 3 := (Option.some.inj ((show entGet [((⟨#[98]⟩ : ByteArray), (3 : Int))] ⟨#[98]⟩ = some 3 by decide).symm.trans hk)).symm
  rw [this]; decide) 40 0
 rw [n2, show entGet [((⟨#[98]⟩ : ByteArray), (3 : Int))] ⟨#[98]⟩ = some 3 by decide] at this
 unfold thrR fndR
 rw [this]
 unfold thereR
 rw [if_neg (by simp), if_neg (by simp)]
 rfl
theorem tA_ls : lstE tA2 (thrR tA2 1 ⟨#[97]⟩ true) = 0 ∧ (nd tA2 (thrR tA2 1 ⟨#[97]⟩ true).1.node).ents = [(⟨#[98]⟩, 3)] ∧ statE tA2 (thrR tA2 1 ⟨#[97]⟩ false) = 0 ∧ (thrR tA2 1 ⟨#[97]⟩ false).1.node = 2 ∧
 statV tA2 (thrR tA2 1 ⟨#[97]⟩ false) = .agg #[.int .i64 2, .int .i64 511, .int .i64 1, .int .i64 0, .int .i64 1] ∧ (∀ e ∈ [((⟨#[98]⟩ : ByteArray), (3 : Int))], e.1.size <= 255 ∧ 1 <= e.1.size ∧ ¬ e.1.data.toList[0]? = some 46 ∧ statE tA2 (thrR tA2 1 (joinB ⟨#[97]⟩ e.1) false) = 0) ∧
 outL ⟨#[]⟩ [(⟨#[98]⟩, 3)] = ⟨#[98, 10]⟩ := by
 rw [tA_thr_a2, tA_thr_a2]
 refine ⟨by decide, by decide, by decide, rfl, ?_, fun e he => ?_, by decide⟩
 ·rfl
 ·rw [List.mem_singleton.1 he, show joinB ⟨#[97]⟩ ((⟨#[98]⟩ : ByteArray), (3 : Int)).1 = ⟨#[97, 47, 98]⟩ by decide, tA_thr_b2]
  exact ⟨by decide, by decide, by decide, by decide⟩
end Go.Proofs.YtnaenhekjdmlaaaGreatDoor
namespace Go.Proofs.YtnaenhekjdmlaaaGreatDoor
open Go Go.RowKit
section
variable {W w : World} {Q : Nat -> Prop} {B F a : Nat} {d d' : Nds} {room calls fail at' mask st : Int} {name out err : ByteArray} {iv : Value}
theorem ls_dir {S : Nat -> Prop} {p : Option Addr} {c : Nat} {s : ByteArray} (h : TW W Q w B F a d room calls fail (wkC name F at' mask iv out err st)) (hA : SlAt encStr S w p c [s]) (hf : noFlag s = true) (es : List Ent) (hle : lstE d (thrR d at' s true) = 0) (hes : (nd d (thrR d at' s true).1.node).ents = es)
 {n im il ih iz : Int} (hn : (thrR d at' s false).1.node = n) (hV : statV d (thrR d at' s false) = .agg #[.int .i64 2, .int .i64 im, .int .i64 il, .int .i64 ih, .int .i64 iz]) (hE : statE d (thrR d at' s false) = 0)
 (each : ∀ e ∈ es, e.1.size <= 255 ∧ 1 <= e.1.size ∧ ¬ e.1.data.toList[0]? = some 46 ∧ statE d (thrR d at' (joinB s e.1) false) = 0) (hl : es.length <= 1000) (hs : s.size <= 1000) (ho : out.size <= 1000) :
 Calls Tryz.prog 62 #[.pointer (some ⟨B, 0, none⟩), .slice p 1 c] w fun e w' => e = .returned (.tuple #[]) ∧ TW W Q w' B F a d room calls fail (wkC name F at' mask iv (outL out es) err st) ∧ Keeps (Lw W Q) w w' := by
 have HT := Lib.hid h
 have HV := Lib.hid hV
 have HE := Lib.hid hE
 have HF := Lib.hid (flags_none hA ⟨#[97, 108, 100, 49]⟩ (fun x hx => by cases hx; exact hf))
 have hsz : s.size <= 4294967280 := by omega
 have HSz := Lib.hid hsz
 have HIb := Lib.hid (fun wx => ib_any ⟨#[]⟩ 100 wx)
 rw [show bIdx (⟨#[]⟩ : ByteArray) ((100 : Int)).toNat.toUInt8 = -1 by decide] at HIb
 have HL := Lib.hid (fun (w1 : World) (k : Keeps NoB w w1) => list_plain (h.on k) ⟨#[]⟩ s (by decide) es hle hes each hl hs ho)
 have HWr := Lib.hid (fun w1 : World => wrong_ok (B := B) 1 w1)
 obtain ⟨g, o, rfl, hS0, hg0, t0⟩ := hA.str (i := 0) (x := s) rfl
 have hcp := hA.cap
 have hcm := hA.max
 unfold maxLen at hcm
 have a0 : w.cell? ⟨g, o, none⟩ = some (.string s) := t0
 clear h hA hf hle hes hV hE each t0
 go_enter Tryz.func62, Tryz.ntmps62
 go_upto_region 6 with (go_at_call 114; go_loud (refine HF.out.mono ?_); rintro e w1 ⟨rfl, rfl⟩)
 clear a0
 have HSt := Lib.hid (fun (w1 : World) (k : Keeps NoB w w1) => (HT.out.fx.on k).asks fun N hN => stat_any hN at' mask s false HSz.out)
 rw [HV.out, HE.out, hn] at HSt
 clear hn
 have f0 := HT.out.bx.cell 1 _ rfl
 have b0 := HT.out.bx.cell 2 _ rfl
 have b1 := HT.out.bx.cell 3 _ rfl
 have fl := HT.out.bx.lt
 go_upto_region 6 with fail
 go_cut [7, 8, 9] from 31 to 44 (fun x y z wx => ∃ G : Nat, w.heap.size <= G ∧ x = .int .i64 n ∧ y = .pointer (some ⟨G, 0, none⟩) ∧ z = .int .i64 0 ∧ Bx wx G [.int .i64 2, .int .i64 im, .int .i64 il, .int .i64 ih, .int .i64 iz] ∧ Keeps NoB w wx)
 case first =>
  have kr := Keeps.refl NoB w
  have krd := kr.drew
  have d0 := (HT.out.on krd).bx.cell 1 _ rfl
  have d1 := (HT.out.on krd).bx.cell 2 _ rfl
  have d2 := (HT.out.on krd).bx.cell 3 _ rfl
  go_region_held3 (fun wz => wz.cell? ⟨B, 1, none⟩ = some (.pointer (some ⟨F, 0, none⟩)) ∧ wz.cell? ⟨B, 2, none⟩ = some (.int .i64 at') ∧ wz.cell? ⟨B, 3, none⟩ = some (.int .i64 mask) ∧ Keeps NoB w wz) (refine ⟨?_, ?_, ?_, ?_⟩ <;> first | with_reducible assumption | (with_reducible refine (HT.out.on ?_).bx.cell 1 _ rfl; (repeat (first | with_reducible assumption | (with_reducible exact Keeps.refl _ _) | (with_reducible refine Keeps.drew ?_) | (with_reducible refine Keeps.drewN ?_ _) | (with_reducible refine Keeps.alloc ?_ _) | (with_reducible refine Keeps.setCell ?_ (by first | exact Or.inl rfl | exact Or.inr (Nat.le_refl _) | exact Or.inr (by first | (simp; done) | (simp; omega))) _))); done) | (with_reducible refine (HT.out.on ?_).bx.cell 2 _ rfl; (repeat (first | with_reducible assumption | (with_reducible exact Keeps.refl _ _) | (with_reducible refine Keeps.drew ?_) | (with_reducible refine Keeps.drewN ?_ _) | (with_reducible refine Keeps.alloc ?_ _) | (with_reducible refine Keeps.setCell ?_ (by first | exact Or.inl rfl | exact Or.inr (Nat.le_refl _) | exact Or.inr (by first | (simp; done) | (simp; omega))) _))); done) | (with_reducible refine (HT.out.on ?_).bx.cell 3 _ rfl; (repeat (first | with_reducible assumption | (with_reducible exact Keeps.refl _ _) | (with_reducible refine Keeps.drew ?_) | (with_reducible refine Keeps.drewN ?_ _) | (with_reducible refine Keeps.alloc ?_ _) | (with_reducible refine Keeps.setCell ?_ (by first | exact Or.inl rfl | exact Or.inr (Nat.le_refl _) | exact Or.inr (by first | (simp; done) | (simp; omega))) _))); done) | ((repeat (first | with_reducible assumption | (with_reducible exact Keeps.refl _ _) | (with_reducible refine Keeps.drew ?_) | (with_reducible refine Keeps.drewN ?_ _) | (with_reducible refine Keeps.alloc ?_ _) | (with_reducible refine Keeps.setCell ?_ (by first | exact Or.inl rfl | exact Or.inr (Nat.le_refl _) | exact Or.inr (by first | (simp; done) | (simp; omega))) _))); done))
   (first | (go_at_call 24; refine (HSt.out _ (by (repeat (first | with_reducible assumption | (with_reducible exact Keeps.refl _ _) | (with_reducible refine Keeps.drew ?_) | (with_reducible refine Keeps.drewN ?_ _) | (with_reducible refine Keeps.alloc ?_ _) | (with_reducible refine Keeps.setCell ?_ (by first | exact Or.inl rfl | exact Or.inr (Nat.le_refl _) | exact Or.inr (by first | (simp; done) | (simp; omega))) _))))).mono ?_; rintro e w2 ⟨rfl, hk2⟩; have zky : Keeps NoB w w2 := Keeps.trans (by (repeat (first | with_reducible assumption | (with_reducible exact Keeps.refl _ _) | (with_reducible refine Keeps.drew ?_) | (with_reducible refine Keeps.drewN ?_ _) | (with_reducible refine Keeps.alloc ?_ _) | (with_reducible refine Keeps.setCell ?_ (by first | exact Or.inl rfl | exact Or.inr (Nat.le_refl _) | exact Or.inr (by first | (simp; done) | (simp; omega))) _)))) hk2; have zs := zky.size; have z0 := (HT.out.on zky).bx.cell 1 _ rfl; have z1 := (HT.out.on zky).bx.cell 2 _ rfl; have z2 := (HT.out.on zky).bx.cell 3 _ rfl; (try (have yb := Bx.newD hk2; have y0 := yb.cell 0 _ rfl; have y1 := yb.cell 1 _ rfl; have y2 := yb.cell 2 _ rfl; have y3 := yb.cell 3 _ rfl; have y4 := yb.cell 4 _ rfl; have yf := yb.fz))))
  all_goals (go_wp2_with fail; go_meet; refine ⟨_, ?_, rfl, rfl, rfl, ?_, ?_⟩)
  all_goals first
   | exact Nat.le_refl _
   | exact zs
   | (with_reducible exact Bx.new (Keeps.refl NoB _))
   | (exact ((((yb.put 0 _).put 1 _).put 2 _).put 3 _).put 4 _)
   | ((repeat (first | with_reducible assumption | (with_reducible exact Keeps.refl _ _) | (with_reducible refine Keeps.drew ?_) | (with_reducible refine Keeps.drewN ?_ _) | (with_reducible refine Keeps.alloc ?_ _) | (with_reducible refine Keeps.setCell ?_ (by first | exact Or.inl rfl | exact Or.inr (Nat.le_refl _) | exact Or.inr (by first | (simp; done) | (simp; omega))) _))); done)
   | skip
 case rest =>
  obtain ⟨HIB, hG, rfl, rfl, rfl, HI, hk⟩ := hcut
  replace HI := Lib.hid HI
  have HK := Lib.hid hk
  have HG := Lib.hid hG
  replace HT := Lib.hid (HT.out.on hk)
  clear f0 b0 b1 fl HSt hG hk
  have i0 := HI.out.cell 0 _ rfl
  go_wp2_with (first | (go_at_call 78; go_loud (refine (HIb.out _).mono ?_); rintro e w3 ⟨rfl, rfl⟩) | (go_at_call 126; go_loud (refine (HL.out _ HK.out).mono ?_); rintro e w4 ⟨rfl, ht4, hk4⟩) | (go_at_call 57; go_loud (refine (HWr.out _).mono ?_); rintro e w5 ⟨rfl, rfl⟩))
  go_end0
  exact ⟨rfl, ht4, HK.out.of_none.trans hk4⟩
end
set_option maxHeartbeats 4000000
section
variable {N : Nat -> Prop} {w w' : World} {F a : Nat} {d d' : Nds} {room calls fail : Int}
theorem mkdir_any (h : FSt N w F a d room calls fail) (hc0 : 0 <= calls) (hc1 : calls <= 4611686018427387904) (hb : mass d + 3 <= 2147483648) (at' mask : Int) (s : ByteArray) (m : Int) (hsz : s.size <= 4294967280) :
 Calls Tryz.prog 27 #[.pointer (some ⟨F, 0, none⟩), .agg #[.int .i64 at', .int .i64 mask], .string s, .int .i64 m] w
  (FTo N w F a (orFail calls fail d (mkdirR d room at' mask s m)).1 room (calls + 1) fail (.int .i64 (orFail calls fail d (mkdirR d room at' mask s m)).2)) := by
 have kz0 : Keeps NoB w (w.alloc (.cells #[.int .i64 at', .int .i64 mask] 52)) := (Keeps.refl _ _).alloc _
 obtain ⟨N1, hsub, hnew, FS⟩ := h.wider kz0
 have HW := Lib.hid (Bx.new (Keeps.refl NoB (w.alloc (.cells #[.int .i64 at', .int .i64 mask] 52))))
 have HNW := Lib.hid (hnew w.heap.size (Nat.le_refl _) (by simp))
 have HK := Lib.hid (kz0.of_none (F := fun g => ¬ N g))
 have HSub := Lib.hid hsub
 clear hsub hnew h kz0
 have HC := Lib.hid (call_any FS hc0 hc1)
 obtain ⟨ce, hce⟩ : ∃ ce, callE calls fail = ce := ⟨_, rfl⟩
 obtain ⟨O, hO⟩ : ∃ O, orFail calls fail d (mkdirR d room at' mask s m) = O := ⟨_, rfl⟩
 have HOF := Lib.hid (show O = if ce ≠ 0 then (d, ce) else mkdirR d room at' mask s m by rw [<- hO]; unfold orFail; rw [hce])
 rw [hO]
 clear hO
 rw [hce] at HC
 clear hce FS hc0 hc1
 go_enter Tryz.func27, Tryz.ntmps27
 go_upto_region 1 with fail
 generalize w.alloc (.cells #[.int .i64 at', .int .i64 mask] 52) = w0 at *
 generalize w.heap.size = W at *
 go_upto_region 2 with (go_at_call 47; go_loud (refine HC.out.mono ?_); rintro e wc ⟨rfl, FS, k1⟩; replace HW := Lib.hid (HW.out.keep k1 (fun hh => hh HNW.out)); replace HK := Lib.hid (HK.out.trans (k1.mono (fun g _ hg hN => hg (HSub.out g hN)))))
 have HFS := Lib.hid FS
 clear HC k1 FS
 by_cases hz : ce ≠ 0
 ·have hb : (ce != 0) = true := by simpa using hz
  rw [if_pos hz] at HOF
  clear hz
  go_wp2_with fail
  go_ret
  exact ⟨ret_i64 (by rw [HOF.out]), (by rw [HOF.out]; exact HFS.out.less HSub.out), HK.out⟩
 rw [if_neg hz] at HOF
 obtain rfl : ce = 0 := Classical.not_not.1 hz
 clear hz
 have b0 := HW.out.cell 0 _ rfl
 have b1 := HW.out.cell 1 _ rfl
 have f0 := HFS.out.c0
 obtain ⟨X, hX⟩ : ∃ X, freeR d at' s true = X := ⟨_, rfl⟩
 have HFr := Lib.hid (free_any HFS.out at' mask s true hsz)
 have HQ := Lib.hid (show mkdirR d room at' mask s m = if X.2 ≠ 0 then (d, X.2) else madeR d room X.1 2 (freshM m mask) ⟨#[]⟩ by unfold mkdirR; rw [hX])
 rw [hX] at HFr
 obtain ⟨⟨node, dir, name⟩, fe⟩ := X
 unfold plcV at HFr
 simp only at HFr HQ
 have HX := Lib.hid hX
 clear hX hsz
 go_upto_region 5 with (go_at_call 65; go_loud (refine HFr.out.mono ?_); rintro e w2 ⟨rfl, k2⟩)
 have KP := Lib.hid (Bx.new (Keeps.refl NoB (w2.alloc (.cells #[.int .i64 node, .int .i64 dir, .string name] 90))))
 have k3 : Keeps NoB wc (w2.alloc (.cells #[.int .i64 node, .int .i64 dir, .string name] 90)) := k2.alloc _
 obtain ⟨N2, hsub, hnew, FS⟩ := HFS.out.wider k3
 have HNP := Lib.hid (hnew w2.heap.size k2.size (by simp))
 replace HW := Lib.hid (HW.out.on k3)
 replace HK := Lib.hid (HK.out.trans k3.of_none)
 replace HSub := Lib.hid (fun g hg => hsub g (HSub.out g hg))
 replace HNW := Lib.hid (hsub _ HNW.out)
 clear b0 b1 f0 HFr k2 k3 hsub hnew HFS
 generalize w2.alloc (.cells #[.int .i64 node, .int .i64 dir, .string name] 90) = w3 at *
 generalize w2.heap.size = PB at *
 have HFS := Lib.hid FS
 clear FS
 by_cases hz : fe ≠ 0
 ·have hb : (fe != 0) = true := by simpa using hz
  rw [HQ.out, if_pos hz] at HOF
  clear hz
  go_wp2_with fail
  go_ret
  exact ⟨ret_i64 (by rw [HOF.out]), (by rw [HOF.out]; exact HFS.out.less HSub.out), HK.out⟩
 rw [HQ.out, if_neg hz] at HOF
 obtain rfl : fe = 0 := Classical.not_not.1 hz
 clear hz
 have f0 := HFS.out.c0
 have b1 := HW.out.cell 1 _ rfl
 go_upto_region 7 with fail
 have HMk := Lib.hid ((HFS.out.on (Keeps.refl NoB w3).drew).prog2 fun R hR => makeD_any hR 2 (freshM m mask) ⟨#[]⟩ (by omega) (by decide))
 have hQ2 := Lib.hid (show madeR d room ⟨0, dir, name⟩ 2 (freshM m mask) ⟨#[]⟩ = madeR d room ⟨0, dir, name⟩ 2 (freshM m mask) ⟨#[]⟩ from rfl)
 go_cut [12, 11] from 11 to 39 (fun x y wx => x = .int .i64 (makeId d room 2 (freshM m mask) ⟨#[]⟩) ∧ y = .int .i64 (makeErr d room 2 (freshM m mask) ⟨#[]⟩) ∧ FSt N2 wx F a (makeTo d room 2 (freshM m mask) ⟨#[]⟩) room (calls + 1) fail ∧ Keeps (fun g => ¬ N2 g) w3 wx)
 case first =>
  generalize makeId d room 2 (freshM m mask) ⟨#[]⟩ = mi at *
  generalize makeErr d room 2 (freshM m mask) ⟨#[]⟩ = me at *
  generalize makeTo d room 2 (freshM m mask) ⟨#[]⟩ = mt at *
  have d0 := (HFS.out.on (Keeps.refl NoB w3).drew).c0
  have d1 := (HW.out.on (Keeps.refl NoB w3).drew).cell 1 _ rfl
  go_region_held3 (fun wz => wz.cell? ⟨F, 0, none⟩ = some (.pointer (some ⟨a, 0, none⟩)) ∧ wz.cell? ⟨W, 1, none⟩ = some (.int .i64 mask)) (refine ⟨?_, ?_⟩ <;> with_reducible assumption)
   (first | (go_at_call 67; refine (fresh_any _ _ _).mono ?_; rintro e wq ⟨rfl, rfl⟩) | (go_at_call 66; refine HMk.out.mono ?_; rintro e w4 ⟨rfl, FS4, k4⟩; have z0 := FS4.c0; have z1 := ((HW.out.on (Keeps.refl NoB w3).drew).keep k4 (fun hh => hh HNW.out)).cell 1 _ rfl))
  all_goals (go_wp2_with fail; go_meet; exact ⟨rfl, rfl, FS4, (Keeps.refl _ _).drew.trans k4⟩)
 case rest =>
  obtain ⟨rfl, rfl, FS, k4⟩ := hcut
  replace HK := Lib.hid (HK.out.trans (k4.mono (fun g _ hg hN => hg (HSub.out g hN))))
  have HP := Lib.hid (KP.out.keep k4 (fun hh => hh HNP.out))
  clear f0 b1 KP HW HFS HMk k4
  obtain ⟨me, hme⟩ : ∃ me, makeErr d room 2 (freshM m mask) ⟨#[]⟩ = me := ⟨_, rfl⟩
  by_cases hz : makeErr d room 2 (freshM m mask) ⟨#[]⟩ ≠ 0
  ·have ht : makeTo d room 2 (freshM m mask) ⟨#[]⟩ = d := by unfold makeTo; rw [if_neg hz]
   have HQ2 := Lib.hid (show O = (d, me) by rw [HOF.out]; unfold madeR; rw [if_pos hz, hme])
   rw [ht] at FS
   have HFS := Lib.hid FS
   rw [hme] at hz
   rw [hme]
   have hb : (me != 0) = true := by simpa using hz
   clear FS hme hz
   go_wp2_with fail
   go_ret
   exact ⟨ret_i64 (by rw [HQ2.out]), (by rw [HQ2.out]; exact HFS.out.less HSub.out), HK.out⟩
  have h0 : makeErr d room 2 (freshM m mask) ⟨#[]⟩ = 0 := Classical.not_not.1 hz
  obtain ⟨e1, e2⟩ := makeTo_ok h0
  obtain ⟨x1, x2, _⟩ := freeR_ok HX.out
  have HQ2 := Lib.hid (show O = entrR (d ++ [newNd 2 (freshM m mask) ⟨#[]⟩]) room ⟨node, dir, name⟩ d.length by rw [HOF.out]; unfold madeR; rw [if_neg hz])
  rw [e1] at FS
  rw [e2, h0]
  have HEn := Lib.hid (enter_anyF FS ⟨node, dir, name⟩ d.length (by rw [mass_made]; omega) (Nat.le_trans x2 (by decide)) (fun _ _ => made_above x1))
  rw [<- HQ2.out] at HEn
  unfold plcV at HEn
  simp only at HEn
  have p0 := HP.out.cell 0 _ rfl
  have p1 := HP.out.cell 1 _ rfl
  have p2 := HP.out.cell 2 _ rfl
  generalize (d.length : Int) = id at *
  clear FS hz h0 e1 e2 x1 x2 hme HQ HX HQ2 HP
  go_wp2_with (go_at_call 68; go_loud (refine HEn.out.mono ?_); rintro e w5 ⟨rfl, FS5, k5⟩)
  go_ret
  exact ⟨rfl, FS5.less HSub.out, HK.out.trans (k5.mono (fun g _ hg hN => hg (HSub.out g hN)))⟩
end
set_option maxHeartbeats 8000000
section
variable {W w : World} {Q : Nat -> Prop} {B F a : Nat} {d d' : Nds} {room calls fail at' mask st : Int} {name out err : ByteArray} {iv : Value}
theorem parents_one {s x : ByteArray} (h : TW W Q w B F a d room calls fail (wkC name F at' mask iv out err st)) (hs1 : 1 <= s.size) (hs2 : s.size <= 1000) (hse : endS s = false) (hab : abvL s s.size = [x]) (hx0 : ¬ x = ⟨#[]⟩) (hxs : x.size <= 1000)
 (hc0 : 0 <= calls) (hc1 : calls <= 4611686018427387904) (hb : mass d + 3 <= 2147483648)
 {n im il ih iz ik : Int} (hn : (thrR d at' x true).1.node = n) (hV : statV d (thrR d at' x true) = .agg #[.int .i64 ik, .int .i64 im, .int .i64 il, .int .i64 ih, .int .i64 iz]) (hE : statE d (thrR d at' x true) = 12) :
 Calls Tryz.prog 116 #[.pointer (some ⟨B, 0, none⟩), .string s] w fun e w' => e = .returned (.tuple #[]) ∧ TW W Q w' B F a (orFail calls fail d (mkdirR d room at' mask x 511)).1 room (calls + 1) fail (wkC name F at' mask iv out err st) ∧ Keeps (Lw W Q) w w' := by
 have HT := Lib.hid h
 have HV := Lib.hid hV
 have HE := Lib.hid hE
 have hxz := notEmpty_eq hx0
 have hxz2 : x.toList.isEmpty = false := by simpa using hxz
 have HTr := Lib.hid (fun w1 : World => trim_same s w1 hs1 (by omega) hse)
 have HAb := Lib.hid (fun w1 : World => above_any s w1 (by omega))
 rw [hab] at HAb
 have HM := Lib.hid (fun (w1 : World) (k : TW W Q w1 B F a d room calls fail (wkC name F at' mask iv out err st)) => k.call (fun N hN => mkdir_any hN hc0 hc1 hb at' mask x 511 (by omega)))
 have hsz : x.size <= 4294967280 := by omega
 have HSz := Lib.hid hsz
 obtain ⟨d1, hd1⟩ : ∃ d1, (orFail calls fail d (mkdirR d room at' mask x 511)).1 = d1 := ⟨_, rfl⟩
 rw [hd1] at HM ⊢
 have HBl := Lib.hid h.bx.lt
 have HLo := Lib.hid h.low
 clear h hV hE hse hab hx0 hd1 hxz
 go_enter Tryz.func116, Tryz.ntmps116
 go_wp2_with (first | (go_at_call 171; go_loud (refine (HTr.out _).mono ?_); rintro e w1 ⟨rfl, rfl⟩) | (go_at_call 172; go_loud (refine (HAb.out _).mono ?_); rintro e w2 ⟨v, rfl, ho2, hk2⟩; obtain ⟨vp, vc, rfl, _⟩ := ho2.sl))
 have HT2 := Lib.hid (HT.out.on hk2)
 have HO2 := Lib.hid ho2
 have HK2 := Lib.hid hk2
 clear ho2 hk2
 go_loopw [14] (fun i wr => (i = .int .i64 0 ∧ wr = w2) ∨ (i = .int .i64 1 ∧ TW W Q wr B F a d1 room (calls + 1) fail (wkC name F at' mask iv out err st) ∧ Keeps (Lw W Q) w wr)) (fun i _ => 2 - (intOf i).toNat)
 case atStart => exact .inl ⟨rfl, rfl⟩
 case round =>
  rcases hrel with ⟨rfl, hw⟩ | ⟨rfl, ht, hk⟩
  ·subst hw
   obtain ⟨vg, vo, hvp, _, _, c0⟩ := (HO2.out.at).str (i := 0) (x := x) rfl
   subst hvp
   have hcp := (HO2.out.at).cap
   have hmx := (HO2.out.at).max
   unfold maxLen at hmx
   have c1 : wr.cell? ⟨vg, vo, none⟩ = some (.string x) := c0
   clear c0
   have HSt := Lib.hid (fun (w1 : World) (k : Keeps NoB wr w1) => (HT2.out.fx.on k).asks fun N hN => stat_any hN at' mask x true HSz.out)
   rw [HV.out, HE.out, hn] at HSt
   clear hn
   have f0 := HT2.out.bx.cell 1 _ rfl
   have b0 := HT2.out.bx.cell 2 _ rfl
   have b1 := HT2.out.bx.cell 3 _ rfl
   have fl := HT2.out.bx.lt
   go_upto_region 5 with fail
   go_cut [6, 7, 8] from 20 to 33 (fun x y z wx => ∃ G : Nat, wr.heap.size <= G ∧ x = .int .i64 n ∧ y = .pointer (some ⟨G, 0, none⟩) ∧ z = .int .i64 12 ∧ Bx wx G [.int .i64 ik, .int .i64 im, .int .i64 il, .int .i64 ih, .int .i64 iz] ∧ Keeps NoB wr wx)
   case first =>
    have kr := Keeps.refl NoB wr
    have krd := kr.drew
    have d0 := (HT2.out.on krd).bx.cell 1 _ rfl
    have d1 := (HT2.out.on krd).bx.cell 2 _ rfl
    have d2 := (HT2.out.on krd).bx.cell 3 _ rfl
    go_region_held3 (fun wz => wz.cell? ⟨B, 1, none⟩ = some (.pointer (some ⟨F, 0, none⟩)) ∧ wz.cell? ⟨B, 2, none⟩ = some (.int .i64 at') ∧ wz.cell? ⟨B, 3, none⟩ = some (.int .i64 mask) ∧ Keeps NoB wr wz) (refine ⟨?_, ?_, ?_, ?_⟩ <;> first | with_reducible assumption | (with_reducible refine (HT2.out.on ?_).bx.cell 1 _ rfl; (repeat (first | with_reducible assumption | (with_reducible exact Keeps.refl _ _) | (with_reducible refine Keeps.drew ?_) | (with_reducible refine Keeps.drewN ?_ _) | (with_reducible refine Keeps.alloc ?_ _) | (with_reducible refine Keeps.setCell ?_ (by first | exact Or.inl rfl | exact Or.inr (Nat.le_refl _) | exact Or.inr (by first | (simp; done) | (simp; omega))) _))); done) | (with_reducible refine (HT2.out.on ?_).bx.cell 2 _ rfl; (repeat (first | with_reducible assumption | (with_reducible exact Keeps.refl _ _) | (with_reducible refine Keeps.drew ?_) | (with_reducible refine Keeps.drewN ?_ _) | (with_reducible refine Keeps.alloc ?_ _) | (with_reducible refine Keeps.setCell ?_ (by first | exact Or.inl rfl | exact Or.inr (Nat.le_refl _) | exact Or.inr (by first | (simp; done) | (simp; omega))) _))); done) | (with_reducible refine (HT2.out.on ?_).bx.cell 3 _ rfl; (repeat (first | with_reducible assumption | (with_reducible exact Keeps.refl _ _) | (with_reducible refine Keeps.drew ?_) | (with_reducible refine Keeps.drewN ?_ _) | (with_reducible refine Keeps.alloc ?_ _) | (with_reducible refine Keeps.setCell ?_ (by first | exact Or.inl rfl | exact Or.inr (Nat.le_refl _) | exact Or.inr (by first | (simp; done) | (simp; omega))) _))); done) | ((repeat (first | with_reducible assumption | (with_reducible exact Keeps.refl _ _) | (with_reducible refine Keeps.drew ?_) | (with_reducible refine Keeps.drewN ?_ _) | (with_reducible refine Keeps.alloc ?_ _) | (with_reducible refine Keeps.setCell ?_ (by first | exact Or.inl rfl | exact Or.inr (Nat.le_refl _) | exact Or.inr (by first | (simp; done) | (simp; omega))) _))); done))
     (first | (go_at_call 24; refine (HSt.out _ (by (repeat (first | with_reducible assumption | (with_reducible exact Keeps.refl _ _) | (with_reducible refine Keeps.drew ?_) | (with_reducible refine Keeps.drewN ?_ _) | (with_reducible refine Keeps.alloc ?_ _) | (with_reducible refine Keeps.setCell ?_ (by first | exact Or.inl rfl | exact Or.inr (Nat.le_refl _) | exact Or.inr (by first | (simp; done) | (simp; omega))) _))))).mono ?_; rintro e w2 ⟨rfl, hk2⟩; have zky : Keeps NoB wr w2 := Keeps.trans (by (repeat (first | with_reducible assumption | (with_reducible exact Keeps.refl _ _) | (with_reducible refine Keeps.drew ?_) | (with_reducible refine Keeps.drewN ?_ _) | (with_reducible refine Keeps.alloc ?_ _) | (with_reducible refine Keeps.setCell ?_ (by first | exact Or.inl rfl | exact Or.inr (Nat.le_refl _) | exact Or.inr (by first | (simp; done) | (simp; omega))) _)))) hk2; have zs := zky.size; have z0 := (HT2.out.on zky).bx.cell 1 _ rfl; have z1 := (HT2.out.on zky).bx.cell 2 _ rfl; have z2 := (HT2.out.on zky).bx.cell 3 _ rfl; (try (have yb := Bx.newD hk2; have y0 := yb.cell 0 _ rfl; have y1 := yb.cell 1 _ rfl; have y2 := yb.cell 2 _ rfl; have y3 := yb.cell 3 _ rfl; have y4 := yb.cell 4 _ rfl; have yf := yb.fz))))
    all_goals (go_wp2_with fail; go_meet; refine ⟨_, ?_, rfl, rfl, rfl, ?_, ?_⟩)
    all_goals first
     | exact Nat.le_refl _
     | exact zs
     | (with_reducible exact Bx.new (Keeps.refl NoB _))
     | (exact ((((yb.put 0 _).put 1 _).put 2 _).put 3 _).put 4 _)
     | ((repeat (first | with_reducible assumption | (with_reducible exact Keeps.refl _ _) | (with_reducible refine Keeps.drew ?_) | (with_reducible refine Keeps.drewN ?_ _) | (with_reducible refine Keeps.alloc ?_ _) | (with_reducible refine Keeps.setCell ?_ (by first | exact Or.inl rfl | exact Or.inr (Nat.le_refl _) | exact Or.inr (by first | (simp; done) | (simp; omega))) _))); done)
     | skip
   case rest =>
    obtain ⟨HIB, hG, rfl, rfl, rfl, HI, hk⟩ := hcut
    replace HI := Lib.hid HI
    have HK := Lib.hid hk
    have HG := Lib.hid hG
    replace HT2 := Lib.hid (HT2.out.on hk)
    clear f0 b0 b1 fl HSt hG hk
    go_upto_region 7 with fail
    have hd := HT2.out.on (Keeps.refl NoB _).drew
    have HD := Lib.hid hd
    have HM7 := Lib.hid (HM.out _ hd)
    have g0 := HT2.out.bx.cell 1 _ rfl
    have g1 := HT2.out.bx.cell 2 _ rfl
    have g2 := HT2.out.bx.cell 3 _ rfl
    have f0 := hd.bx.cell 1 _ rfl
    have f1 := hd.bx.cell 2 _ rfl
    have f2 := hd.bx.cell 3 _ rfl
    have fl := hd.bx.lt
    clear hd
    go_still_tail 9, (by kernel_rfl)
    change wpList _ _ _ _ _ (World.drew _)
    go_wp2_with (go_at_call 27; go_loud (refine HM7.out.mono ?_); rintro e w5 ⟨rfl, ht5, hk5⟩)
    go_roundw
    case rel =>
     refine .inr ⟨by go_num, ht5, ?_⟩
     exact ((HK2.out.trans HK.out).drew.of_none).trans (gd_low hk5)
    case measure => simp [intOf]
  ·go_wp2_with fail
   go_end0
   exact ⟨rfl, ht, hk⟩
end
theorem slhm (s : ByteArray) (w : World) (hs : s = ⟨#[112]⟩ ∨ s = ⟨#[]⟩) :
 Calls Tryz.prog 158 #[.string s, .string ⟨#[109]⟩] w fun e w' => e = .returned (.bool false) ∧ w = w' := by
 rcases hs with rfl | rfl
 all_goals
  go_enter Tryz.func158, Tryz.ntmps158
  go_wp2
  go_ret
  exact ⟨by first | rfl | exact ret_bool (by rw [Lib.toList_data]; decide), rfl⟩
theorem hsm (s : ByteArray) (w : World) (hs : s = ⟨#[112]⟩ ∨ s = ⟨#[]⟩) :
 Calls Tryz.prog 95 #[.string s, .string ⟨#[109]⟩] w fun e w' => e = .returned (.bool false) ∧ w = w' := by
 have H := Lib.hid (slhm s w hs)
 clear hs
 go_enter Tryz.func95, Tryz.ntmps95
 go_wp2_with (go_at_call 158; refine H.out.mono ?_; rintro e w' ⟨rfl, rfl⟩)
 go_ret
 exact ⟨rfl, rfl⟩
section
variable {W w : World} {Q : Nat -> Prop} {B F a : Nat} {d d' : Nds} {room calls fail at' mask st : Int} {name out err : ByteArray} {iv : Value}
theorem mkdir_p {S : Nat -> Prop} {p : Option Addr} {c : Nat} {s x : ByteArray} (h : TW W Q w B F a d room calls fail (wkC name F at' mask iv out err st)) (hA : SlAt encStr S w p c [⟨#[45, 112]⟩, s]) (hf : noFlag s = true)
 (hs1 : 1 <= s.size) (hs2 : s.size <= 1000) (hse : endS s = false) (hab : abvL s s.size = [x]) (hx0 : ¬ x = ⟨#[]⟩) (hxs : x.size <= 1000)
 (hc0 : 0 <= calls) (hc1 : calls + 1 <= 4611686018427387904) (hb : mass d + 3 <= 2147483648)
 {n im il ih iz ik : Int} (hn : (thrR d at' x true).1.node = n) (hV : statV d (thrR d at' x true) = .agg #[.int .i64 ik, .int .i64 im, .int .i64 il, .int .i64 ih, .int .i64 iz]) (hE : statE d (thrR d at' x true) = 12)
 {d1 d2 : Nds} (hd1 : (orFail calls fail d (mkdirR d room at' mask x 511)).1 = d1) (hb1 : mass d1 + 3 <= 2147483648)
 {n2 km kl kh kz kk : Int} (hn2 : (thrR d1 at' s true).1.node = n2) (hV2 : statV d1 (thrR d1 at' s true) = .agg #[.int .i64 kk, .int .i64 km, .int .i64 kl, .int .i64 kh, .int .i64 kz]) (hE2 : statE d1 (thrR d1 at' s true) = 12)
 (hd2 : DInv d1 -> NoGarb d1 -> orFail (calls + 1) fail d1 (mkdirR d1 room at' mask s 511) = (d2, 0)) :
 Calls Tryz.prog 58 #[.pointer (some ⟨B, 0, none⟩), .slice p 2 c] w fun e w' => e = .returned (.tuple #[]) ∧ TW W Q w' B F a d2 room (calls + 1 + 1) fail (wkC name F at' mask iv out err st) ∧ Keeps (Lw W Q) w w' := by
 have HT := Lib.hid h
 have HV2 := Lib.hid hV2
 have HE2 := Lib.hid hE2
 have HF := Lib.hid (flags_one hA ⟨#[112, 109]⟩ (by decide) (by decide) (by decide) (by decide) (by decide) (fun y hy => by cases hy; exact hf))
 rw [show (⟨#[45, 112]⟩ : ByteArray).extract 1 (ByteArray.size ⟨#[45, 112]⟩) = ⟨#[112]⟩ by decide] at HF
 simp only [List.length_cons, List.length_nil, Nat.zero_add] at HF
 have hsub := hA.sub 1 2 (by omega) (by simp)
 rw [show ([(⟨#[45, 112]⟩ : ByteArray), s].take 2).drop 1 = [s] from rfl] at hsub
 obtain ⟨vg, vo, hvp, hvS, hvl, c0⟩ := hsub.str (i := 0) (x := s) rfl
 have hcp := hsub.cap
 have hmx := hsub.max
 unfold maxLen at hmx
 rw [show encStr.k = 1 from rfl] at hvp
 rw [hvp] at HF
 have HC0 : Hid (w.cell? ⟨vg, vo, none⟩ = some (.string s)) := c0
 have HP := Lib.hid (fun (w1 : World) (k : TW W Q w1 B F a d room calls fail (wkC name F at' mask iv out err st)) => parents_one k hs1 hs2 hse hab hx0 hxs hc0 (by omega) hb hn hV hE)
 rw [hd1] at HP
 have HM : Hid (∀ w1 : World, TW W Q w1 B F a d1 room (calls + 1) fail (wkC name F at' mask iv out err st) -> Calls Tryz.prog 27 #[.pointer (some ⟨F, 0, none⟩), .agg #[.int .i64 at', .int .i64 mask], .string s, .int .i64 511] w1 fun e w' => e = .returned (.int .i64 0) ∧ TW W Q w' B F a d2 room (calls + 1 + 1) fail (wkC name F at' mask iv out err st) ∧ Keeps (Gd W Q B) w1 w') := Lib.hid fun w1 k => by
  have := k.call (fun N hN => mkdir_any hN (by omega) hc1 hb1 at' mask s 511 (by omega))
  rw [hd2 k.fx.inv k.fx.clean] at this
  exact this
 have hsz : s.size <= 4294967280 := by omega
 have HSz := Lib.hid hsz
 have HSf := Lib.hid (fun w1 : World => hsm ⟨#[112]⟩ w1 (.inl rfl))
 have HI1 := Lib.hid (fun wx => ib_any ⟨#[112]⟩ 109 wx)
 rw [show bIdx (⟨#[112]⟩ : ByteArray) ((109 : Int)).toNat.toUInt8 = -1 by decide] at HI1
 have HI2 := Lib.hid (fun wx => ib_any ⟨#[112]⟩ 112 wx)
 rw [show bIdx (⟨#[112]⟩ : ByteArray) ((112 : Int)).toNat.toUInt8 = 0 by decide] at HI2
 have HWr := Lib.hid (fun w1 : World => wrong_ok (B := B) 1 w1)
 generalize c - 1 = cc at *
 clear h hA hsub hvp hvS hvl c0 hV hE hV2 hE2 hf hse hab hx0 hd1 hd2 hn hs1 hxs hc0 hc1 hb hb1 hsz
 go_enter Tryz.func58, Tryz.ntmps58
 go_upto_region 8 with (first | (go_at_call 114; go_loud (refine HF.out.mono ?_); rintro e w1 ⟨rfl, hk1⟩) | (go_at_call 95; go_loud (refine (HSf.out _).mono ?_); rintro e w2 ⟨rfl, rfl⟩) | (go_at_call 78; go_loud (refine (HI1.out _).mono ?_); rintro e w3 ⟨rfl, rfl⟩))
 clear HF HSf HI1
 have HT1 := Lib.hid (HT.out.on hk1)
 have HK1 := Lib.hid hk1
 have HC1 : Hid (w1.cell? ⟨vg, vo, none⟩ = some (.string s)) := (hk1.cell (p := ⟨vg, vo, none⟩) (lt_of_cell HC0.out) (fun h => h)).trans HC0.out
 clear hk1 HT
 go_wp2_with fail
 go_loopw [69] (fun i wr => (i = .int .i64 0 ∧ wr = w1) ∨ (i = .int .i64 1 ∧ TW W Q wr B F a d2 room (calls + 1 + 1) fail (wkC name F at' mask iv out err st) ∧ Keeps (Lw W Q) w wr)) (fun i _ => 2 - (intOf i).toNat)
 case atStart => exact .inl ⟨rfl, rfl⟩
 case round =>
  rcases hrel with ⟨rfl, hw⟩ | ⟨rfl, ht, hk⟩
  ·subst hw
   have c1 := HC1.out
   go_upto_region 13 with (first | (go_at_call 78; go_loud (refine (HI2.out _).mono ?_); rintro e w3 ⟨rfl, rfl⟩) | (go_at_call 116; go_loud (refine (HP.out _ HT1.out).mono ?_); rintro e w4 ⟨rfl, ht4, hk4⟩))
   have HT4 := Lib.hid ht4
   have HK4 := Lib.hid hk4
   clear ht4 hk4
   have HSt := Lib.hid (fun (w1 : World) (k : Keeps NoB w4 w1) => (HT4.out.fx.on k).asks fun N hN => stat_any hN at' mask s true HSz.out)
   rw [HV2.out, HE2.out, hn2] at HSt
   clear hn2
   have f0 := HT4.out.bx.cell 1 _ rfl
   have b0 := HT4.out.bx.cell 2 _ rfl
   have b1 := HT4.out.bx.cell 3 _ rfl
   have fl := HT4.out.bx.lt
   go_upto_region 13 with fail
   go_cut [11, 12, 13] from 79 to 92 (fun x y z wx => ∃ G : Nat, w4.heap.size <= G ∧ x = .int .i64 n2 ∧ y = .pointer (some ⟨G, 0, none⟩) ∧ z = .int .i64 12 ∧ Bx wx G [.int .i64 kk, .int .i64 km, .int .i64 kl, .int .i64 kh, .int .i64 kz] ∧ Keeps NoB w4 wx)
   case first =>
    have kr := Keeps.refl NoB w4
    have krd := kr.drew
    have d0 := (HT4.out.on krd).bx.cell 1 _ rfl
    have d1 := (HT4.out.on krd).bx.cell 2 _ rfl
    have d2 := (HT4.out.on krd).bx.cell 3 _ rfl
    go_region_held3 (fun wz => wz.cell? ⟨B, 1, none⟩ = some (.pointer (some ⟨F, 0, none⟩)) ∧ wz.cell? ⟨B, 2, none⟩ = some (.int .i64 at') ∧ wz.cell? ⟨B, 3, none⟩ = some (.int .i64 mask) ∧ Keeps NoB w4 wz) (refine ⟨?_, ?_, ?_, ?_⟩ <;> first | with_reducible assumption | (with_reducible refine (HT4.out.on ?_).bx.cell 1 _ rfl; (repeat (first | with_reducible assumption | (with_reducible exact Keeps.refl _ _) | (with_reducible refine Keeps.drew ?_) | (with_reducible refine Keeps.drewN ?_ _) | (with_reducible refine Keeps.alloc ?_ _) | (with_reducible refine Keeps.setCell ?_ (by first | exact Or.inl rfl | exact Or.inr (Nat.le_refl _) | exact Or.inr (by first | (simp; done) | (simp; omega))) _))); done) | (with_reducible refine (HT4.out.on ?_).bx.cell 2 _ rfl; (repeat (first | with_reducible assumption | (with_reducible exact Keeps.refl _ _) | (with_reducible refine Keeps.drew ?_) | (with_reducible refine Keeps.drewN ?_ _) | (with_reducible refine Keeps.alloc ?_ _) | (with_reducible refine Keeps.setCell ?_ (by first | exact Or.inl rfl | exact Or.inr (Nat.le_refl _) | exact Or.inr (by first | (simp; done) | (simp; omega))) _))); done) | (with_reducible refine (HT4.out.on ?_).bx.cell 3 _ rfl; (repeat (first | with_reducible assumption | (with_reducible exact Keeps.refl _ _) | (with_reducible refine Keeps.drew ?_) | (with_reducible refine Keeps.drewN ?_ _) | (with_reducible refine Keeps.alloc ?_ _) | (with_reducible refine Keeps.setCell ?_ (by first | exact Or.inl rfl | exact Or.inr (Nat.le_refl _) | exact Or.inr (by first | (simp; done) | (simp; omega))) _))); done) | ((repeat (first | with_reducible assumption | (with_reducible exact Keeps.refl _ _) | (with_reducible refine Keeps.drew ?_) | (with_reducible refine Keeps.drewN ?_ _) | (with_reducible refine Keeps.alloc ?_ _) | (with_reducible refine Keeps.setCell ?_ (by first | exact Or.inl rfl | exact Or.inr (Nat.le_refl _) | exact Or.inr (by first | (simp; done) | (simp; omega))) _))); done))
     (first | (go_at_call 24; refine (HSt.out _ (by (repeat (first | with_reducible assumption | (with_reducible exact Keeps.refl _ _) | (with_reducible refine Keeps.drew ?_) | (with_reducible refine Keeps.drewN ?_ _) | (with_reducible refine Keeps.alloc ?_ _) | (with_reducible refine Keeps.setCell ?_ (by first | exact Or.inl rfl | exact Or.inr (Nat.le_refl _) | exact Or.inr (by first | (simp; done) | (simp; omega))) _))))).mono ?_; rintro e w2 ⟨rfl, hk2⟩; have zky : Keeps NoB w4 w2 := Keeps.trans (by (repeat (first | with_reducible assumption | (with_reducible exact Keeps.refl _ _) | (with_reducible refine Keeps.drew ?_) | (with_reducible refine Keeps.drewN ?_ _) | (with_reducible refine Keeps.alloc ?_ _) | (with_reducible refine Keeps.setCell ?_ (by first | exact Or.inl rfl | exact Or.inr (Nat.le_refl _) | exact Or.inr (by first | (simp; done) | (simp; omega))) _)))) hk2; have zs := zky.size; have z0 := (HT4.out.on zky).bx.cell 1 _ rfl; have z1 := (HT4.out.on zky).bx.cell 2 _ rfl; have z2 := (HT4.out.on zky).bx.cell 3 _ rfl; (try (have yb := Bx.newD hk2; have y0 := yb.cell 0 _ rfl; have y1 := yb.cell 1 _ rfl; have y2 := yb.cell 2 _ rfl; have y3 := yb.cell 3 _ rfl; have y4 := yb.cell 4 _ rfl; have yf := yb.fz))))
    all_goals (go_wp2_with fail; go_meet; refine ⟨_, ?_, rfl, rfl, rfl, ?_, ?_⟩)
    all_goals first
     | exact Nat.le_refl _
     | exact zs
     | (with_reducible exact Bx.new (Keeps.refl NoB _))
     | (exact ((((yb.put 0 _).put 1 _).put 2 _).put 3 _).put 4 _)
     | ((repeat (first | with_reducible assumption | (with_reducible exact Keeps.refl _ _) | (with_reducible refine Keeps.drew ?_) | (with_reducible refine Keeps.drewN ?_ _) | (with_reducible refine Keeps.alloc ?_ _) | (with_reducible refine Keeps.setCell ?_ (by first | exact Or.inl rfl | exact Or.inr (Nat.le_refl _) | exact Or.inr (by first | (simp; done) | (simp; omega))) _))); done)
     | skip
   case rest =>
    obtain ⟨HIB2, hG2, rfl, rfl, rfl, HI2, hk2⟩ := hcut
    replace HI2 := Lib.hid HI2
    have HK2 := Lib.hid hk2
    have HG2 := Lib.hid hG2
    replace HT4 := Lib.hid (HT4.out.on hk2)
    clear f0 b0 b1 fl HSt hG2 hk2
    go_upto_region 15 with fail
    have HM7 := Lib.hid (HM.out _ (HT4.out.on (Keeps.refl NoB _).drew))
    have hd := HT4.out.on (Keeps.refl NoB _).drew
    have HD := Lib.hid hd
    have g0 := HT4.out.bx.cell 1 _ rfl
    have g1 := HT4.out.bx.cell 2 _ rfl
    have g2 := HT4.out.bx.cell 3 _ rfl
    have f0 := hd.bx.cell 1 _ rfl
    have f1 := hd.bx.cell 2 _ rfl
    have f2 := hd.bx.cell 3 _ rfl
    have fl := hd.bx.lt
    clear hd
    go_still_tail 9, (by kernel_rfl)
    change wpList _ _ _ _ _ (World.drew _)
    go_wp2_with (first | (go_at_call 27; go_loud (refine HM7.out.mono ?_); rintro e w5 ⟨rfl, ht5, hk5⟩) | (go_at_call 57; go_loud (refine (HWr.out _).mono ?_); rintro e w6 ⟨rfl, rfl⟩))
    go_roundw
    case rel => exact .inr ⟨by go_num, ht5, (((HK1.out.of_none.trans HK4.out).trans HK2.out.of_none).trans (Keeps.refl _ _).drew).trans (gd_low hk5)⟩
    case measure => simp [intOf]
  ·go_wp2_with fail
   go_end0
   exact ⟨rfl, ht, hk⟩
end
section
variable {W w : World} {Q : Nat -> Prop} {B F a : Nat} {d d' : Nds} {room calls calls' fail at' mask st : Int} {name out err : ByteArray} {iv : Value}
theorem results_cell_oneT {fn : Func} {p : Tmp} {ty : TypeId} (h : fn.results = #[.cell p ty]) (tmps : Array Value) (P : Program) (w : World) :
 (results fn tmps).run P w = ((asAddr (tmps.getD p undef)).run P w).andThen fun a w₁ => (loadVar ty a).run P w₁ := by
 simp only [results, h]
 simp [Sem.run_bind, Result.andThen]
theorem run_start (h : FSx W Q w F a d room calls fail) {bt : TypeId} {bv : Value} :
 (fun w3 => TW W (fun g => Q g ∨ g = w.heap.size + 1) w3 (w.heap.size + 1 + 1) F a d room calls fail (wkC name F at' mask (.iface bt bv) ⟨#[]⟩ ⟨#[]⟩ 0) ∧ Bx w3 (w.heap.size + 1) [.string ⟨#[]⟩, .string ⟨#[]⟩, .int .i64 0] ∧ Keeps NoB w w3 ∧ w.heap.size + 2 < w3.heap.size)
   (((w.alloc (.cells #[.int .i64 at', .int .i64 mask] 52)).alloc (.cells #[.string ⟨#[]⟩, .string ⟨#[]⟩, .int .i64 0] 31)).alloc (.cells #[.string name, .pointer (some ⟨F, 0, none⟩), .int .i64 at', .int .i64 mask, .iface bt bv, .string ⟨#[]⟩, .string ⟨#[]⟩, .int .i64 0] 98)) := by
 have k1 : Keeps NoB w (w.alloc (.cells #[.int .i64 at', .int .i64 mask] 52)) := (Keeps.refl _ _).alloc _
 have k2 : Keeps NoB w ((w.alloc (.cells #[.int .i64 at', .int .i64 mask] 52)).alloc (.cells #[.string ⟨#[]⟩, .string ⟨#[]⟩, .int .i64 0] 31)) := k1.alloc _
 have k3 : Keeps NoB w (((w.alloc (.cells #[.int .i64 at', .int .i64 mask] 52)).alloc (.cells #[.string ⟨#[]⟩, .string ⟨#[]⟩, .int .i64 0] 31)).alloc (.cells #[.string name, .pointer (some ⟨F, 0, none⟩), .int .i64 at', .int .i64 mask, .iface bt bv, .string ⟨#[]⟩, .string ⟨#[]⟩, .int .i64 0] 98)) := k2.alloc _
 have z1 : (w.alloc (.cells #[.int .i64 at', .int .i64 mask] 52)).heap.size = w.heap.size + 1 := by simp
 have z2 : ((w.alloc (.cells #[.int .i64 at', .int .i64 mask] 52)).alloc (.cells #[.string ⟨#[]⟩, .string ⟨#[]⟩, .int .i64 0] 31)).heap.size = w.heap.size + 2 := by simp
 have z3 : (((w.alloc (.cells #[.int .i64 at', .int .i64 mask] 52)).alloc (.cells #[.string ⟨#[]⟩, .string ⟨#[]⟩, .int .i64 0] 31)).alloc (.cells #[.string name, .pointer (some ⟨F, 0, none⟩), .int .i64 at', .int .i64 mask, .iface bt bv, .string ⟨#[]⟩, .string ⟨#[]⟩, .int .i64 0] 98)).heap.size = w.heap.size + 3 := by simp
 have hlo := h.keeps.size
 have b2 := Bx.new ((Keeps.refl NoB ((w.alloc (.cells #[.int .i64 at', .int .i64 mask] 52)).alloc (.cells #[.string ⟨#[]⟩, .string ⟨#[]⟩, .int .i64 0] 31))).alloc (.cells #[.string name, .pointer (some ⟨F, 0, none⟩), .int .i64 at', .int .i64 mask, .iface bt bv, .string ⟨#[]⟩, .string ⟨#[]⟩, .int .i64 0] 98))
 have b3 := Bx.new (Keeps.refl NoB (((w.alloc (.cells #[.int .i64 at', .int .i64 mask] 52)).alloc (.cells #[.string ⟨#[]⟩, .string ⟨#[]⟩, .int .i64 0] 31)).alloc (.cells #[.string name, .pointer (some ⟨F, 0, none⟩), .int .i64 at', .int .i64 mask, .iface bt bv, .string ⟨#[]⟩, .string ⟨#[]⟩, .int .i64 0] 98)))
 rw [z1] at b2
 rw [z2] at b3
 refine ⟨⟨h.more k3 (fun g hg => ?_), b3, by omega, fun hq => ?_⟩, b2, k3, by rw [z3]; omega⟩
 ·rcases hg with rfl | hg | rfl
  ·exact .inr ⟨by omega, by rw [z3]; omega⟩
  ·exact .inl hg
  ·exact .inr ⟨by omega, by rw [z3]; omega⟩
 ·rcases hq with hq | hq
  ·have := h.low _ hq; omega
  ·omega
theorem run_mkdir (h : FSx W Q w F a d room calls fail) {p : Option Addr} {n c : Nat} {bt : TypeId} {bv : Value}
 (hm : ∀ (Q' : Nat -> Prop) w1 B, TW W Q' w1 B F a d room calls fail (wkC ⟨#[109, 107, 100, 105, 114]⟩ F at' mask (.iface bt bv) ⟨#[]⟩ ⟨#[]⟩ 0) -> Keeps NoB w w1 ->
   Calls Tryz.prog 58 #[.pointer (some ⟨B, 0, none⟩), .slice p n c] w1 fun e w' => e = .returned (.tuple #[]) ∧ TW W Q' w' B F a d' room calls' fail (wkC ⟨#[109, 107, 100, 105, 114]⟩ F at' mask (.iface bt bv) out err st) ∧ Keeps (Lw W Q') w1 w') :
 Calls Tryz.prog 23 #[.string ⟨#[109, 107, 100, 105, 114]⟩, .slice p n c, .pointer (some ⟨F, 0, none⟩), .agg #[.int .i64 at', .int .i64 mask], .iface bt bv] w (FXo W Q w F a d' room calls' fail (.agg #[.string out, .string err, .int .i64 st])) := by
 have HS := Lib.hid (run_start (bt := bt) (bv := bv) (at' := at') (mask := mask) (name := ⟨#[109, 107, 100, 105, 114]⟩) h)
 have HM := Lib.hid (fun Q' w1 B h1 h2 => hm Q' w1 B h1 h2)
 have HW := Lib.hid h.keeps.size
 clear h hm
 go_enter Tryz.func23, Tryz.ntmps23
 go_upto_region 2 with fail
 obtain ⟨HT, HR, HK, hBR⟩ := HS.out
 generalize ((w.alloc (.cells #[.int .i64 at', .int .i64 mask] 52)).alloc (.cells #[.string ⟨#[]⟩, .string ⟨#[]⟩, .int .i64 0] 31)).alloc (.cells #[.string ⟨#[109, 107, 100, 105, 114]⟩, .pointer (some ⟨F, 0, none⟩), .int .i64 at', .int .i64 mask, .iface bt bv, .string ⟨#[]⟩, .string ⟨#[]⟩, .int .i64 0] 98) = w3 at *
 have HC := Lib.hid (HM.out _ _ _ HT HK)
 have hkz := HK.size
 have HKw := Lib.hid HK
 have HRw := Lib.hid HR
 generalize w.heap.size + 1 + 1 = B at *
 clear HM HK HR HT
 go_wp2_with (go_at_call 58; go_loud (refine HC.out.mono ?_); rintro e w4 ⟨rfl, ht4, hk4⟩; have a5 := ht4.bx.cell 5 _ rfl; have a6 := ht4.bx.cell 6 _ rfl; have a7 := ht4.bx.cell 7 _ rfl; have ab := ht4.bx.lt; have hr4 := HRw.out.keep hk4 (fun hg => hg.2 (.inr rfl)); have r0 := hr4.cell 0 _ rfl; have r1 := hr4.cell 1 _ rfl; have r2 := hr4.cell 2 _ rfl; have rf := hr4.fz; have rl := hr4.lt)
 refine bodyPost_ret (v := .agg #[.string out, .string err, .int .i64 st]) ?_ rfl ?_
 ·rw [results_cell_oneT rfl]; go_simp
 have hR := hkz
 have k3 := kset w4 ⟨w.heap.size + 1, 0, none⟩ (.string out)
 have k4 := kset (w4.setCell ⟨w.heap.size + 1, 0, none⟩ (.string out)) ⟨w.heap.size + 1, 1, none⟩ (.string err)
 have k5 := kset ((w4.setCell ⟨w.heap.size + 1, 0, none⟩ (.string out)).setCell ⟨w.heap.size + 1, 1, none⟩ (.string err)) ⟨w.heap.size + 1, 2, none⟩ (.int .i64 st)
 have k6 := (k3.trans k4).trans k5
 have hW : W.heap.size <= w.heap.size := HW.out
 have t6 := ht4.fx.turn k6 (fun g hg => ⟨.inr (.inr hg), by have e : g = w.heap.size + 1 := hg; omega⟩)
 refine ⟨rfl, t6.more (Keeps.refl _ _) (fun g hg => .inl (.inr (.inl hg))), ?_⟩
 exact (HKw.out.of_none.trans (hk4.mono (fun g _ hg hn => hn.elim (fun h => by have := hg.1; omega) (fun h => hg.2 (.inl h))))).step k6 (fun g hg => .inr (by have e : g = w.heap.size + 1 := hg; omega))
theorem run_ls (h : FSx W Q w F a d room calls fail) {p : Option Addr} {n c : Nat} {bt : TypeId} {bv : Value}
 (hm : ∀ (Q' : Nat -> Prop) w1 B, TW W Q' w1 B F a d room calls fail (wkC ⟨#[108, 115]⟩ F at' mask (.iface bt bv) ⟨#[]⟩ ⟨#[]⟩ 0) -> Keeps NoB w w1 ->
   Calls Tryz.prog 62 #[.pointer (some ⟨B, 0, none⟩), .slice p n c] w1 fun e w' => e = .returned (.tuple #[]) ∧ TW W Q' w' B F a d' room calls' fail (wkC ⟨#[108, 115]⟩ F at' mask (.iface bt bv) out err st) ∧ Keeps (Lw W Q') w1 w') :
 Calls Tryz.prog 23 #[.string ⟨#[108, 115]⟩, .slice p n c, .pointer (some ⟨F, 0, none⟩), .agg #[.int .i64 at', .int .i64 mask], .iface bt bv] w (FXo W Q w F a d' room calls' fail (.agg #[.string out, .string err, .int .i64 st])) := by
 have HS := Lib.hid (run_start (bt := bt) (bv := bv) (at' := at') (mask := mask) (name := ⟨#[108, 115]⟩) h)
 have HM := Lib.hid (fun Q' w1 B h1 h2 => hm Q' w1 B h1 h2)
 have HW := Lib.hid h.keeps.size
 clear h hm
 go_enter Tryz.func23, Tryz.ntmps23
 go_upto_region 2 with fail
 obtain ⟨HT, HR, HK, hBR⟩ := HS.out
 generalize ((w.alloc (.cells #[.int .i64 at', .int .i64 mask] 52)).alloc (.cells #[.string ⟨#[]⟩, .string ⟨#[]⟩, .int .i64 0] 31)).alloc (.cells #[.string ⟨#[108, 115]⟩, .pointer (some ⟨F, 0, none⟩), .int .i64 at', .int .i64 mask, .iface bt bv, .string ⟨#[]⟩, .string ⟨#[]⟩, .int .i64 0] 98) = w3 at *
 have HC := Lib.hid (HM.out _ _ _ HT HK)
 have hkz := HK.size
 have HKw := Lib.hid HK
 have HRw := Lib.hid HR
 generalize w.heap.size + 1 + 1 = B at *
 clear HM HK HR HT
 go_wp2_with (go_at_call 62; go_loud (refine HC.out.mono ?_); rintro e w4 ⟨rfl, ht4, hk4⟩; have a5 := ht4.bx.cell 5 _ rfl; have a6 := ht4.bx.cell 6 _ rfl; have a7 := ht4.bx.cell 7 _ rfl; have ab := ht4.bx.lt; have hr4 := HRw.out.keep hk4 (fun hg => hg.2 (.inr rfl)); have r0 := hr4.cell 0 _ rfl; have r1 := hr4.cell 1 _ rfl; have r2 := hr4.cell 2 _ rfl; have rf := hr4.fz; have rl := hr4.lt)
 refine bodyPost_ret (v := .agg #[.string out, .string err, .int .i64 st]) ?_ rfl ?_
 ·rw [results_cell_oneT rfl]; go_simp
 have hR := hkz
 have k3 := kset w4 ⟨w.heap.size + 1, 0, none⟩ (.string out)
 have k4 := kset (w4.setCell ⟨w.heap.size + 1, 0, none⟩ (.string out)) ⟨w.heap.size + 1, 1, none⟩ (.string err)
 have k5 := kset ((w4.setCell ⟨w.heap.size + 1, 0, none⟩ (.string out)).setCell ⟨w.heap.size + 1, 1, none⟩ (.string err)) ⟨w.heap.size + 1, 2, none⟩ (.int .i64 st)
 have k6 := (k3.trans k4).trans k5
 have hW : W.heap.size <= w.heap.size := HW.out
 have t6 := ht4.fx.turn k6 (fun g hg => ⟨.inr (.inr hg), by have e : g = w.heap.size + 1 := hg; omega⟩)
 refine ⟨rfl, t6.more (Keeps.refl _ _) (fun g hg => .inl (.inr (.inl hg))), ?_⟩
 exact (HKw.out.of_none.trans (hk4.mono (fun g _ hg hn => hn.elim (fun h => by have := hg.1; omega) (fun h => hg.2 (.inl h))))).step k6 (fun g hg => .inr (by have e : g = w.heap.size + 1 := hg; omega))
end
section
variable {W : World} {Q : Nat -> Prop} {F a : Nat} {room calls fail : Int}
theorem t23mkdir {w : World} (h : FSx W Q w F a tA0 100 0 (-1)) {p : Option Addr} {c : Nat} {S : Nat -> Prop} (hA : SlAt encStr S w p c [⟨#[45, 112]⟩, ⟨#[97, 47, 98]⟩]) (bt : TypeId) (bv : Value) :
 Calls Tryz.prog 23 #[.string ⟨#[109, 107, 100, 105, 114]⟩, .slice p 2 c, .pointer (some ⟨F, 0, none⟩), .agg #[.int .i64 1, .int .i64 0], .iface bt bv] w (FXo W Q w F a tA2 100 2 (-1) (.agg #[.string ⟨#[]⟩, .string ⟨#[]⟩, .int .i64 0])) := by
 have h1 := tA_mk1 h.inv h.clean
 refine run_mkdir h fun Q' w1 B ht hk => ?_
 refine mkdir_p (d1 := tA1) (d2 := tA2) (x := ⟨#[97]⟩) ht (hA.keepN hk) (by decide) (by decide) (by decide) (by decide) (by decide) (by decide) (by decide) (by decide) (by decide) (by decide) tA_thr_a0.1 tA_thr_a0.2.2 tA_thr_a0.2.1 h1 (by decide) tA_thr_b1.1 tA_thr_b1.2.2 tA_thr_b1.2.1 tA_mk2
theorem t23ls {w : World} (h : FSx W Q w F a tA2 100 2 (-1)) {p : Option Addr} {c : Nat} {S : Nat -> Prop} (hA : SlAt encStr S w p c [⟨#[97]⟩]) (bt : TypeId) (bv : Value) :
 Calls Tryz.prog 23 #[.string ⟨#[108, 115]⟩, .slice p 1 c, .pointer (some ⟨F, 0, none⟩), .agg #[.int .i64 1, .int .i64 0], .iface bt bv] w (FXo W Q w F a tA2 100 2 (-1) (.agg #[.string ⟨#[98, 10]⟩, .string ⟨#[]⟩, .int .i64 0])) := by
 obtain ⟨l1, l2, l3, l4, l5, l6, l7⟩ := tA_ls
 refine run_ls h fun Q' w1 B ht hk => ?_
 have := ls_dir ht (hA.keepN hk) (by decide) [(⟨#[98]⟩, 3)] l1 l2 l4 l5 l3 l6 (by decide) (by decide) (by decide)
 rw [l7] at this
 exact this
theorem anchor23_any (w : World) : Calls Tryz.prog 17 #[] w fun e w' => e = .returned (.bool true) ∧ Keeps NoB w w' := by
 have HB := Lib.hid (begin_any w 100 (-1) (by decide) (by decide))
 have HM := Lib.hid (fun (Q : Nat -> Prop) (wx : World) (bt : TypeId) (bv : Value) (F a : Nat) (h : FSx w Q wx F a tA0 100 0 (-1)) (p : Option Addr) (c : Nat) (hA : SlAt encStr (fun _ => True) wx p c [⟨#[45, 112]⟩, ⟨#[97, 47, 98]⟩]) => t23mkdir h hA bt bv)
 have HL := Lib.hid (fun (Q : Nat -> Prop) (wx : World) (bt : TypeId) (bv : Value) (F a : Nat) (h : FSx w Q wx F a tA2 100 2 (-1)) (p : Option Addr) (c : Nat) (hA : SlAt encStr (fun _ => True) wx p c [⟨#[97]⟩]) => t23ls h hA bt bv)
 go_enter Tryz.func17, Tryz.ntmps17
 go_upto_region 5 with (go_at_call 18; go_loud (refine HB.out.mono ?_); rintro e w1 ⟨F, a, rfl, FS, k1⟩)
 have FX1 := Lib.hid (FSx.new FS k1)
 clear HB FS k1
 have HW := Lib.hid (Bx.new (Keeps.refl NoB (w1.alloc (.cells #[.int .i64 1, .int .i64 0] 52))))
 have FX2 := Lib.hid (FX1.out.more (P' := fun g => g = w1.heap.size) ((Keeps.refl NoB w1).alloc (.cells #[.int .i64 1, .int .i64 0] 52)) (fun g hg => .inr ⟨by omega, by rw [hg]; simp⟩))
 clear FX1
 generalize w1.alloc (.cells #[.int .i64 1, .int .i64 0] 52) = w2 at *
 generalize w1.heap.size = WB at *
 have hA := own_lit (E := encStr) (e := 9) (w := w2) (S := fun _ => True) [⟨#[45, 112]⟩, ⟨#[97, 47, 98]⟩] #[.string ⟨#[45, 112]⟩, .string ⟨#[97, 47, 98]⟩] rfl 2 rfl trivial (by decide)
 have ka : Keeps NoB w2 (w2.alloc (.cells #[.string ⟨#[45, 112]⟩, .string ⟨#[97, 47, 98]⟩] 9)) := (Keeps.refl _ _).alloc _
 have HM2 := Lib.hid (fun bt bv => HM.out _ _ bt bv F a (FX2.out.on ka) _ _ hA.at)
 have HWa := Lib.hid (HW.out.on ka)
 have HFa := Lib.hid (FX2.out.on ka)
 have b0 := HW.out.cell 0 _ rfl
 have b1 := HW.out.cell 1 _ rfl
 have bl := HW.out.lt
 clear hA ka HM
 go_upto_region 6 with (go_at_call 23; go_loud (refine (HM2.out _ _).mono ?_); rintro e w3 ⟨rfl, FX3, k3⟩)
 have FX4 := Lib.hid (FX3.on ((Keeps.refl NoB w3).alloc (.cells #[.string ⟨#[]⟩, .string ⟨#[]⟩, .int .i64 0] 31)))
 have HR := Lib.hid (Bx.new (Keeps.refl NoB (w3.alloc (.cells #[.string ⟨#[]⟩, .string ⟨#[]⟩, .int .i64 0] 31))))
 have HW4 := Lib.hid ((HFa.out.kept HWa.out k3 rfl).on ((Keeps.refl NoB w3).alloc (.cells #[.string ⟨#[]⟩, .string ⟨#[]⟩, .int .i64 0] 31)))
 clear FX3 k3 HWa HFa HM2 b0 b1 bl FX2 HW
 generalize w3.alloc (.cells #[.string ⟨#[]⟩, .string ⟨#[]⟩, .int .i64 0] 31) = w4 at *
 generalize w3.heap.size = R at *
 have hA := own_lit (E := encStr) (e := 9) (w := w4) (S := fun _ => True) [⟨#[97]⟩] #[.string ⟨#[97]⟩] rfl 1 rfl trivial (by decide)
 have ka : Keeps NoB w4 (w4.alloc (.cells #[.string ⟨#[97]⟩] 9)) := (Keeps.refl _ _).alloc _
 have HL2 := Lib.hid (fun bt bv => HL.out _ _ bt bv F a (FX4.out.on ka) _ _ hA.at)
 have b0 := HW4.out.cell 0 _ rfl
 have b1 := HW4.out.cell 1 _ rfl
 have bl := HW4.out.lt
 have r0 := HR.out.cell 0 _ rfl
 have r1 := HR.out.cell 1 _ rfl
 have r2 := HR.out.cell 2 _ rfl
 have rl := HR.out.lt
 clear hA ka HL
 go_wp2_with (go_at_call 23; go_loud (refine (HL2.out _ _).mono ?_); rintro e w5 ⟨rfl, FX5, k5⟩)
 go_ret
 exact ⟨rfl, FX5.keeps⟩
end
end Go.Proofs.YtnaenhekjdmlaaaGreatDoor
