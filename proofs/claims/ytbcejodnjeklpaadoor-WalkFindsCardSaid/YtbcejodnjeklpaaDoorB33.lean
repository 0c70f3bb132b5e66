/-
  Contracts of the reference for layer 5: look, into, part, joined.
-/
import Derived.Test.YtbcejodnjeklpaaDoorB28
import Derived.Test.YtbcejodnjeklpaaDoorB14
import Derived.Test.YtbcejodnjeklpaaDoorB24

set_option linter.unusedSimpArgs false
set_option linter.unusedVariables false

set_option maxRecDepth 100000
set_option maxHeartbeats 2000000
namespace Go.Proofs.YtbcejodnjeklpaaDoor
open Go Go.RowKit

theorem hasB_err (s : ByteArray) (h1 : ¬ s = ⟨#[]⟩) (h2 : ¬ 4095 < s.size) : pathErr s = if hasB s 0 then 11 else 0 := by
  unfold pathErr
  rw [if_neg h1, if_neg h2]
  have := bIdx_neg s 0
  by_cases hb : hasB s 0 = true
  · rw [if_pos hb, if_pos]
    have : ¬ bIdx s 0 < 0 := fun h => by rw [this.1 h] at hb; cases hb
    omega
  · rw [if_neg hb, if_neg]
    have := this.2 (by simpa using hb)
    omega

theorem r5look_any (s : ByteArray) (w : World) (hs : s.size ≤ 4294967296) :
    Calls Tryd.prog 58 #[.string s] w fun e w' => e = .returned (.int .i64 (pathErr s)) ∧ w' = w := by
  by_cases h1 : s = ⟨#[]⟩
  · subst h1
    have H := Lib.hid (show pathErr ⟨#[]⟩ = 12 by decide)
    go_enter Tryd.func58, Tryd.ntmps58
    go_wp2
    go_ret
    exact ⟨ret_i64 H.out.symm, rfl⟩
  by_cases h2 : 4095 < s.size
  · have H := Lib.hid (show pathErr s = 18 by unfold pathErr; rw [if_neg h1, if_pos h2])
    have hne := notEmpty_eq h1
    have hne' : s.toList.isEmpty = false := by simpa using hne
    have h2' : (4095 : Int) < (s.size : Int) := by omega
    go_enter Tryd.func58, Tryd.ntmps58
    go_wp2
    go_ret
    exact ⟨ret_i64 H.out.symm, rfl⟩
  · have H := Lib.hid (hasB_err s h1 h2)
    have hne := notEmpty_eq h1
    have hne' : s.toList.isEmpty = false := by simpa using hne
    have h2' : ¬ (4095 : Int) < (s.size : Int) := by omega
    go_enter Tryd.func58, Tryd.ntmps58
    go_wp2
    go_loop [3] (fun i => ∃ k : Nat, k ≤ s.size ∧ i = .int .i64 k ∧ ∀ (j : Nat) (h : j < s.size), j < k → ¬ s[j] = (0 : Int).toNat.toUInt8) (fun i => s.size - (intOf i).toNat)
    case atStart => exact ⟨0, Nat.zero_le _, rfl, fun j _ hj => by omega⟩
    case round =>
      obtain ⟨k, hk, rfl, hno⟩ := hrel
      have Hno := Lib.hid hno
      clear hno
      by_cases hlt : k < s.size
      · have Hb := Lib.hid (byte_eq s[k] 0 (by decide) (by decide))
        go_wp2
        · go_ret
          refine ⟨ret_i64 ?_, rfl⟩
          have h : ((s[k].toNat : Int) == 0) = true := by assumption
          rw [Hb.out, decide_eq_true_eq] at h
          have hh : hasB s 0 = true := (hasB_iff s 0).2 ⟨k, hlt, h⟩
          rw [H.out, if_pos hh]
        · have h : ((s[k].toNat : Int) == 0) = false := by assumption
          rw [Hb.out, decide_eq_false_iff_not] at h
          go_round
          case rel =>
            refine ⟨k + 1, by omega, by go_num, fun j hj hjk => ?_⟩
            by_cases e : j = k
            · subst e; exact h
            · exact Hno.out j hj (by omega)
          case measure => simp [intOf]; omega
      · go_wp2
        go_ret
        refine ⟨ret_i64 ?_, rfl⟩
        rw [H.out, if_neg]
        rw [hasB_iff]
        rintro ⟨j, hj, e⟩
        exact Hno.out j hj (by omega) e

theorem size_pos {s : ByteArray} (h : ¬ s = ⟨#[]⟩) : 1 ≤ s.size := by
  rcases Nat.lt_or_ge s.size 1 with h2 | h2
  · have h3 : s.data.toList = [] := List.eq_nil_of_length_eq_zero (by rw [len_data]; omega)
    exact absurd (eq_of_data (b := ⟨#[]⟩) (by rw [h3])) h
  · exact h2

theorem fold_ne (l : List ByteArray) (hl : ∀ x ∈ l, ¬ x = ⟨#[]⟩) : ∀ t : ByteArray, ¬ t = ⟨#[]⟩ → ¬ l.foldl joinB t = ⟨#[]⟩ := by
  induction l with
  | nil => exact fun t h => h
  | cons x r ih =>
    intro t ht
    refine ih (fun y hy => hl y (by simp [hy])) _ ?_
    have h1 := size_pos ht
    unfold joinB
    rw [if_neg ht]
    intro e
    have h2 := congrArg ByteArray.size e
    split at h2
    · rw [ByteArray.size_append] at h2
      have h0 : (⟨#[]⟩ : ByteArray).size = 0 := rfl
      omega
    · rw [ByteArray.size_append, ByteArray.size_append] at h2
      have h0 : (⟨#[]⟩ : ByteArray).size = 0 := rfl
      omega

theorem r5joined_any (S : Nat → Prop) (w : World) (p : Option Addr) (c : Nat) (l : List ByteArray) (h : SlAt encStr S w p c l) (t : ByteArray) (slash : Bool) (ht0 : ¬ t = ⟨#[]⟩) (hl0 : ∀ x ∈ l, ¬ x = ⟨#[]⟩)
    (hl : ∀ x ∈ l, x.size ≤ 4095) (hn : l.length ≤ 4096) (ht : t.size ≤ 2147483648) :
    Calls Tryd.prog 62 #[.string t, .slice p l.length c, .bool slash] w fun e w' => e = .returned (.string (restB t l slash)) ∧ w' = w := by
  have hcap := h.cap
  have hmax := h.max
  unfold maxLen at hmax
  have HL := Lib.hid hl
  clear hl
  have HR := Lib.hid (show restB t l slash = if slash && !endS (l.foldl joinB t) then l.foldl joinB t ++ slashB else l.foldl joinB t from rfl)
  have HF := Lib.hid (fun k : Nat => fold_size (l.take k) 4095 (fun x hx => HL.out x (List.mem_of_mem_take hx)) t)
  have HN := Lib.hid (fold_ne l hl0 t ht0)
  clear hl0 ht0
  generalize restB t l slash = Q at *
  go_enter Tryd.func62, Tryd.ntmps62
  go_wp2
  go_loop [7, 8] (fun s i => ∃ k : Nat, k ≤ l.length ∧ i = .int .i64 k ∧ s = .string ((l.take k).foldl joinB t)) (fun _ i => l.length - (intOf i).toNat)
  case atStart => exact ⟨0, Nat.zero_le _, rfl, rfl⟩
  case round =>
    obtain ⟨k, hk, rfl, rfl⟩ := hrel
    have hf := HF.out k
    rw [List.length_take, Nat.min_eq_left hk] at hf
    by_cases hlt : k < l.length
    · obtain ⟨x, hx⟩ : ∃ x, l[k]? = some x := ⟨_, List.getElem?_eq_getElem hlt⟩
      obtain ⟨gb, off, rfl, hS, hg, c0⟩ := h.str hx
      have hxs := HL.out x (List.mem_of_getElem? hx)
      have HT := Lib.hid (show (l.take (k + 1)).foldl joinB t = joinB ((l.take k).foldl joinB t) x by rw [List.take_add_one, hx]; simp)
      clear hx
      generalize (l.take k).foldl joinB t = s at *
      go_wp2_with (go_at_call 79; refine (r2join_any _ _ _ (by omega) (by omega)).mono ?_; rintro e w' ⟨rfl, rfl⟩)
      go_round
      case rel => exact ⟨k + 1, by omega, by go_num, by rw [HT.out]⟩
      case measure => simp [intOf]; omega
    · obtain rfl : k = l.length := by omega
      have hne := HN.out
      rw [List.take_length] at hf ⊢
      generalize l.foldl joinB t = s at *
      have hsz := size_pos hne
      have Hb := Lib.hid (byte_eq (s[s.size - 1]'(by omega)) 47 (by decide) (by decide))
      have e1 : ((s.size - 1 : Nat) : Int) = (s.size : Int) - 1 := by omega
      have E1 := Lib.hid e1
      have HE := Lib.hid (endS_last s hsz)
      clear e1 hne
      cases slash with
      | false =>
        go_wp2_with fail
        go_ret
        refine ⟨?_, rfl⟩
        rw [HR.out]
        simp
      | true =>
        go_wp2_with fail
        all_goals
          go_ret
          refine ⟨?_, rfl⟩
          first
            | (have h3 : ((s[s.size - 1].toNat : Int) != 47) = true := by assumption
               have h5 : ((s[s.size - 1].toNat : Int) == 47) = false := by simpa [bne] using h3
               rw [Hb.out] at h5; have h4 : ¬ s[s.size - 1] = 47 := of_decide_eq_false h5; rw [HR.out, HE.out]; simp [h4]; done)
            | (have h3 : ((s[s.size - 1].toNat : Int) != 47) = false := by assumption
               have h5 : ((s[s.size - 1].toNat : Int) == 47) = true := by simpa [bne] using h3
               rw [Hb.out] at h5; have h4 : s[s.size - 1] = 47 := of_decide_eq_true h5; rw [HR.out, HE.out]; simp [h4]; done)
            | skip

section
variable {S : Nat → Prop} {w : World} {p : Option Addr} {c : Nat} {d : Nds} {room : Int}

theorem r5into_any (h : RefAt S w p c d) (hI : DInv d) (i : Int) :
    Calls Tryd.prog 60 #[refV p c d room, .int .i64 i] w fun e w' => e = .returned (.int .i64 (intoErr d i)) ∧ Keeps NoB w w' := by
  have hcap := h.cap
  have hmax := h.max
  unfold maxLen at hmax
  have hal : Keeps NoB w (w.alloc (.cells #[.slice p d.length c, .int .i64 room] 28)) := (Keeps.refl _ _).alloc _
  have hh := r4folder_any (room := room) (h.keepN hal) hI.zero i
  by_cases hf : folderErr d i = 0
  · have hi : has d i := by
      unfold folderErr at hf
      split at hf
      · cases hf
      · assumption
    obtain ⟨k, rfl, hk⟩ := has_nat hi
    obtain ⟨g, off, q, m, rfl, hS, hrow⟩ := h.rowAt hk
    have HQ := Lib.hid (show intoErr d k = if (nd d k).mode / 64 % 2 = 0 then 19 else 0 by unfold intoErr; rw [if_neg (by rw [hf]; simp)])
    rw [hf] at hh
    have HH := Lib.hid hh
    have hm0 := (hI.node k).mode0
    have hm1 := (hI.node k).mode1
    have HR := Lib.hid (fun w1 (hk : Keeps NoB w w1) => hrow.keepN hk)
    clear hh hrow h hi hf
    generalize intoErr d k = Q at *
    unfold refV at *
    have HA := Lib.hid hal
    clear hal
    have hz : ((nd d k).mode / 64 % 2 == 0) = decide ((nd d k).mode / 64 % 2 = 0) := by rw [Bool.eq_iff_iff]; simp
    by_cases h0 : (nd d k).mode / 64 % 2 = 0
    all_goals
      have HQ2 := HQ.out
      first | (rw [if_pos h0] at HQ2; rw [decide_eq_true h0] at hz) | (rw [if_neg h0] at HQ2; rw [decide_eq_false h0] at hz)
      replace HQ2 := Lib.hid HQ2
      clear HQ h0
      go_enter Tryd.func60, Tryd.ntmps60
      go_wp2_with (go_at_call 15; refine HH.out.mono ?_; rintro e w1 ⟨rfl, hk1⟩; have b0 : w1.cell? ⟨w.heap.size, 0, none⟩ = some (.slice (some ⟨g, off, none⟩) d.length c) := boxed hk1 0 _ rfl; have hr1 := HR.out _ (HA.out.trans hk1); have r1 := hr1.c1; have rl := hr1.lt)
      go_ret
      exact ⟨ret_i64 HQ2.out.symm, HA.out.trans hk1⟩
  · have HQ := Lib.hid (show intoErr d i = folderErr d i by unfold intoErr; rw [if_pos hf])
    have hne : (folderErr d i != 0) = true := by simpa using hf
    have HH := Lib.hid hh
    have HA := Lib.hid hal
    clear hh hf hal
    generalize folderErr d i = fe at *
    generalize intoErr d i = Q at *
    unfold refV at *
    go_enter Tryd.func60, Tryd.ntmps60
    go_wp2_with (go_at_call 15; refine HH.out.mono ?_; rintro e w1 ⟨rfl, hk1⟩)
    go_ret
    exact ⟨ret_i64 HQ.out.symm, HA.out.trans hk1⟩

/-- Where a part leads, of a directory that one may go through. -/
def partP (d : Nds) (up : Int → Int) (at' : Int) (x : ByteArray) : Plc × Int :=
  if x = dotB then (.on at', 0) else if x = dotsB then (.on (up at'), 0) else if 255 < x.size then (.no, 18) else (⟨lookOf d at' x, at', x⟩, 0)

theorem r5part_any (h : RefAt S w p c d) (hI : DInv d) (hs : smallD d) {up : Int → Int} (hup : ∀ i u, folderErr d i = 0 → UpIs d i u → up i = u) (at' : Int) (hf : folderErr d at' = 0) (x : ByteArray) :
    Calls Tryd.prog 61 #[refV p c d room, .int .i64 at', .string x] w fun e w' => e = .returned (.tuple #[plcV (partP d up at' x).1, .int .i64 (partP d up at' x).2]) ∧ Keeps NoB w w' := by
  have hcap := h.cap
  have hmax := h.max
  unfold maxLen at hmax
  have hal : Keeps NoB w ((w.alloc (.cells #[.slice p d.length c, .int .i64 room] 28)).alloc (.cells #[.int .i64 0, .int .i64 0, .string ⟨#[]⟩] 44)) := ((Keeps.refl _ _).alloc _).alloc _
  have e1 : (w.alloc (.cells #[.slice p d.length c, .int .i64 room] 28)).heap.size = w.heap.size + 1 := by simp
  have HA := Lib.hid hal
  have HD := Lib.hid (show partP d up at' x = if x = dotB then (.on at', 0) else if x = dotsB then (.on (up at'), 0) else if 255 < x.size then (.no, 18) else (⟨lookOf d at' x, at', x⟩, 0) from rfl)
  generalize partP d up at' x = Q at *
  have ht := hI.two
  by_cases h1 : x = dotB
  · have HQ := HD.out
    rw [if_pos h1] at HQ
    replace HQ := Lib.hid HQ
    clear HD hal
    subst h1
    unfold refV
    go_enter Tryd.func61, Tryd.ntmps61
    go_wp2
    (try simp only [Exit.inBlock, Exit.then]); refine bodyPost_ret (v := .tuple #[plcV Q.1, .int .i64 Q.2]) ?_ rfl ?_; rw [HQ.out, results_cell_tmp rfl]; (try unfold plcV); (try unfold Plc.no); (try unfold Plc.on); go_simp; refine ⟨rfl, ?_⟩; (repeat (first | with_reducible assumption | (with_reducible exact Keeps.refl _ _) | (with_reducible refine Keeps.drew ?_) | (with_reducible refine Keeps.alloc ?_ _) | (with_reducible refine Keeps.setCell ?_ (by first | exact Or.inl rfl | exact Or.inr (Nat.le_refl _) | exact Or.inr (by first | (simp; done) | (simp; omega))) _)))
  have d1 : (x.toList == [46]) = false := not_dot h1
  by_cases h2 : x = dotsB
  · have HU := Lib.hid (r4up_any (room := room) (h.keepN hal) hI.zero (by omega) hs at')
    have HQ := HD.out
    rw [if_neg h1, if_pos h2] at HQ
    replace HQ := Lib.hid HQ
    have HUp := Lib.hid (fun u => hup at' u hf)
    clear HD hal
    subst h2
    unfold refV at *
    go_enter Tryd.func61, Tryd.ntmps61
    go_wp2_with (go_at_call 37; refine HU.out.mono ?_; rintro e w1 ⟨u, rfl, hui, hk1⟩; have hu := HUp.out u hui; subst hu; have KB := c3_new (v0 := .int .i64 0) (v1 := .int .i64 0) (v2 := .string ⟨#[]⟩) hk1; rw [e1] at KB; have B0 := KB.c0; have B1 := KB.c1; have B2 := KB.c2; have FB := KB.fz; have bl := KB.lt; have kz := HA.out.trans hk1)
    (try simp only [Exit.inBlock, Exit.then]); refine bodyPost_ret (v := .tuple #[plcV Q.1, .int .i64 Q.2]) ?_ rfl ?_; rw [HQ.out, results_cell_tmp rfl]; (try unfold plcV); (try unfold Plc.no); (try unfold Plc.on); go_simp; refine ⟨rfl, ?_⟩; (repeat (first | with_reducible assumption | (with_reducible exact Keeps.refl _ _) | (with_reducible refine Keeps.drew ?_) | (with_reducible refine Keeps.alloc ?_ _) | (with_reducible refine Keeps.setCell ?_ (by first | exact Or.inl rfl | exact Or.inr (Nat.le_refl _) | exact Or.inr (by first | (simp; done) | (simp; omega))) _)))
  have d2 : (x.toList == [46, 46]) = false := not_dots h2
  by_cases h3 : 255 < x.size
  · have HQ := HD.out
    rw [if_neg h1, if_neg h2, if_pos h3] at HQ
    replace HQ := Lib.hid HQ
    have h3' : (255 : Int) < (x.size : Int) := by omega
    clear HD hal
    unfold refV at *
    go_enter Tryd.func61, Tryd.ntmps61
    go_wp2
    (try simp only [Exit.inBlock, Exit.then]); refine bodyPost_ret (v := .tuple #[plcV Q.1, .int .i64 Q.2]) ?_ rfl ?_; rw [HQ.out, results_cell_tmp rfl]; (try unfold plcV); (try unfold Plc.no); (try unfold Plc.on); go_simp; refine ⟨rfl, ?_⟩; (repeat (first | with_reducible assumption | (with_reducible exact Keeps.refl _ _) | (with_reducible refine Keeps.drew ?_) | (with_reducible refine Keeps.alloc ?_ _) | (with_reducible refine Keeps.setCell ?_ (by first | exact Or.inl rfl | exact Or.inr (Nat.le_refl _) | exact Or.inr (by first | (simp; done) | (simp; omega))) _)))
  · have HL := Lib.hid (r4look_any (room := room) (h.keepN hal) hI at' x)
    have HQ := HD.out
    rw [if_neg h1, if_neg h2, if_neg h3] at HQ
    replace HQ := Lib.hid HQ
    have h3' : ¬ (255 : Int) < (x.size : Int) := by omega
    clear HD hal
    generalize lookOf d at' x = k at *
    generalize lookErr d at' x = le at *
    unfold refV at *
    go_enter Tryd.func61, Tryd.ntmps61
    go_wp2_with (go_at_call 78; refine HL.out.mono ?_; rintro e w1 ⟨rfl, hk1⟩; have KB := c3_new (v0 := .int .i64 0) (v1 := .int .i64 0) (v2 := .string ⟨#[]⟩) hk1; rw [e1] at KB; have B0 := KB.c0; have B1 := KB.c1; have B2 := KB.c2; have FB := KB.fz; have bl := KB.lt; have kz := HA.out.trans hk1)
    (try simp only [Exit.inBlock, Exit.then]); refine bodyPost_ret (v := .tuple #[plcV Q.1, .int .i64 Q.2]) ?_ rfl ?_; rw [HQ.out, results_cell_tmp rfl]; (try unfold plcV); (try unfold Plc.no); (try unfold Plc.on); go_simp; refine ⟨rfl, ?_⟩; (repeat (first | with_reducible assumption | (with_reducible exact Keeps.refl _ _) | (with_reducible refine Keeps.drew ?_) | (with_reducible refine Keeps.alloc ?_ _) | (with_reducible refine Keeps.setCell ?_ (by first | exact Or.inl rfl | exact Or.inr (Nat.le_refl _) | exact Or.inr (by first | (simp; done) | (simp; omega))) _)))
end
end Go.Proofs.YtbcejodnjeklpaaDoor

/-
  Contracts of the reference for layer 5: Whole.
-/
set_option maxRecDepth 100000
set_option maxHeartbeats 4000000
namespace Go.Proofs.YtbcejodnjeklpaaDoor
open Go Go.RowKit

section
variable {S : Nat → Prop} {w : World} {p : Option Addr} {c : Nat} {d : Nds} {room : Int}

theorem r5whole_any (h : RefAt S w p c d) (hI : DInv d) (hs : smallD d) {up : Int → Int} (hup : ∀ i u, folderErr d i = 0 → UpIs d i u → up i = u) (hpar : ∀ u i, Par d u i → up i = u) (id0 : Int) (W : ByteArray) (hk0 : (nd d id0).kind = 2) (hW : WP d id0 ⟨#[]⟩ W) :
    Calls Tryd.prog 16 #[refV p c d room, .int .i64 id0] w fun e w' => e = .returned (.tuple #[.string W, .bool true]) ∧ Keeps NoB w w' := by
  have hcap := h.cap
  have hmax := h.max
  unfold maxLen at hmax
  have hlen := mass_ge d
  have hs' := hs
  unfold smallD at hs'
  have k1 : Keeps NoB w (w.alloc (.cells #[.slice p d.length c, .int .i64 room] 28)) := (Keeps.refl _ _).alloc _
  have HK := Lib.hid k1
  have HUp := Lib.hid hup
  have HPar := Lib.hid hpar
  have ht := hI.two
  clear k1 hup hpar
  have HZ : Hid (0 + ancs d id0 ≤ d.length ∧ (nd d id0).kind = 2 ∧ WP d id0 ⟨#[]⟩ W ∧ (⟨#[]⟩ : ByteArray).size + 256 * ancs d id0 ≤ 256 * d.length) := Lib.hid ⟨by have := ancs_le d id0; omega, hk0, hW, by have := ancs_le d id0; show 0 + _ ≤ _; omega⟩
  clear hk0 hW
  unfold refV
  go_enter Tryd.func16, Tryd.ntmps16
  go_wp2
  go_loopw [1, 6, 7] (fun v1 v6 v7 wr => ∃ (n : Nat) (id : Int) (s : ByteArray), v7 = .int .i64 n ∧ v1 = .int .i64 id ∧ v6 = .string s ∧ (n + ancs d id ≤ d.length ∧ (nd d id).kind = 2 ∧ WP d id s W ∧ s.size + 256 * ancs d id ≤ 256 * d.length) ∧ Keeps NoB (w.alloc (.cells #[.slice p d.length c, .int .i64 room] 28)) wr) (fun _ _ v7 _ => d.length + 1 - (intOf v7).toNat)
  case atStart => exact ⟨0, id0, ⟨#[]⟩, rfl, rfl, rfl, HZ.out, Keeps.refl _ _⟩
  case round =>
    obtain ⟨n, id, s, rfl, rfl, rfl, ⟨hn, hkd, hWP, hsz⟩, hk⟩ := hrel
    clear HZ
    have b0 : wr.cell? ⟨w.heap.size, 0, none⟩ = some (.slice p d.length c) := boxed hk 0 _ rfl
    have b1 : wr.cell? ⟨w.heap.size, 1, none⟩ = some (.int .i64 room) := boxed hk 1 _ rfl
    have bl : w.heap.size < wr.heap.size := Nat.lt_of_lt_of_le (by simp) hk.size
    have hnle : (n : Int) ≤ (d.length : Int) := by omega
    by_cases h1 : id = 1
    · subst h1
      have HQ := Lib.hid (hWP.at_root hI)
      have hsb : s.size ≤ 549755813888 := by omega
      clear hWP
      go_wp2_with fail
      go_ret2
      exact ⟨by rw [HQ.out]; rfl, HK.out.trans hk⟩
    · have hb : (id == 1) = false := by simpa using h1
      obtain ⟨_, u, e, hp, he, hei, huni, hWu⟩ := hWP.above hI h1
      have hhi : has d id := by unfold has; rw [hkd]; decide
      have hfe : folderErr d id = 0 := by unfold folderErr; rw [if_neg hhi, if_pos hkd]
      have huk := hp.dir hI
      have hhu : has d u := by unfold has; rw [huk]; decide
      have hupi := HPar.out u id hp
      obtain ⟨ku, rfl, hku⟩ := has_nat hhu
      obtain ⟨g, off, q, m, rfl, hS, hrow0⟩ := h.rowAt hku
      have HU := Lib.hid (r4up_any (room := room) (h.keepN (HK.out.trans hk)) hI.zero (by omega) hs id)
      have hue := fun u' (hu : UpIs d id u') => (HUp.out id u' hfe hu).symm.trans hupi
      have Hue := Lib.hid hue
      have hal := ancs_lt hI hp
      have h2 : e.1.size ≤ 255 := by have := (hI.node ku).names e he; simp [okName] at this; omega
      have hsb : s.size ≤ 549755813888 := by omega
      have hse : (e.1 ++ slB s).size ≤ s.size + 256 := by
        rw [ByteArray.size_append]
        unfold slB
        split
        · show _ + 0 ≤ _; omega
        · rw [ByteArray.size_append]; show _ + (1 + _) ≤ _; omega
      have HN : Hid (n + 1 + ancs d (ku : Int) ≤ d.length ∧ (nd d (ku : Int)).kind = 2 ∧ WP d (ku : Int) (e.1 ++ slB s) W ∧ (e.1 ++ slB s).size + 256 * ancs d (ku : Int) ≤ 256 * d.length) := Lib.hid ⟨by omega, huk, hWu, by omega⟩
      have hel := nd_ents_len hs (ku : Int)
      have HH := Lib.hid (And.intro he (And.intro hei huni))
      clear hue hp he hei huni hWu hhi hfe huk hhu hupi hal hkd hWP
      unfold refV at HU
      go_upto_region 10 with (first | (go_at_call 37; go_loud (refine HU.out.mono ?_); rintro ex w2 ⟨u', rfl, hui, hk2⟩; have hu' := Hue.out u' hui; subst hu'))
      have hk3 := hk.trans hk2
      have d0 : w2.cell? ⟨w.heap.size, 0, none⟩ = some (.slice (some ⟨g, off, none⟩) d.length c) := boxed hk3 0 _ rfl
      have dl : w.heap.size < w2.heap.size := Nat.lt_of_lt_of_le bl hk2.size
      have hrow := hrow0.keepN (HK.out.trans hk3)
      have rc4 := hrow.c4
      have rlt := hrow.lt
      have hsl := hrow.sl
      have hcl := hsl.cap
      have hml := hsl.max
      unfold maxLen at hml
      clear b0 b1 bl HU hk hk2
      generalize (nd d (ku : Int)).ents = es at *
      go_wp2_with fail
      go_loop [6, 9, 10] (fun v6 v9 v10 => ∃ j : Nat, v10 = .int .i64 j ∧ j ≤ es.length ∧ ((v9 = .bool false ∧ v6 = .string s ∧ ∀ i x, i < j → es[i]? = some x → ¬ x.2 = id) ∨ (v9 = .bool true ∧ v6 = .string (e.1 ++ slB s)))) (fun _ _ v10 => es.length - (intOf v10).toNat)
      case atStart => exact ⟨0, rfl, Nat.zero_le _, .inl ⟨rfl, rfl, fun i x hi => by omega⟩⟩
      case round =>
        obtain ⟨j, rfl, hj, hc⟩ := hrel
        by_cases hlt : j < es.length
        · obtain ⟨x, hx⟩ : ∃ x, es[j]? = some x := ⟨_, List.getElem?_eq_getElem hlt⟩
          obtain ⟨g2, off2, rfl, hS2, hg2, c0, c1⟩ := hsl.ent hx
          have Hx := Lib.hid hx
          clear hx
          rcases hc with ⟨rfl, rfl, hno⟩ | ⟨rfl, rfl⟩
          · have Hno := Lib.hid hno
            clear hno
            by_cases hxi : x.2 = id
            · have hbx : (x.2 == id) = true := by simpa using hxi
              have hxe : x = e := HH.out.2.2 x (List.mem_of_getElem? Hx.out) hxi
              subst hxe
              by_cases hs0 : s = ⟨#[]⟩
              · have hsl0 : slB s = s := by rw [hs0]; rfl
                rw [hsl0] at HN
                subst hs0
                go_wp2_with fail
                go_round
                case rel => exact ⟨j + 1, by go_num, by omega, .inr ⟨rfl, rfl⟩⟩
                case measure => simp [intOf]; omega
              · have hne := notEmpty_eq hs0
                have hsl' : slB s = slashB ++ s := by unfold slB; rw [if_neg hs0]
                clear hs0
                go_wp2_with fail
                go_round
                case rel => exact ⟨j + 1, by go_num, by omega, .inr ⟨rfl, by rw [hsl']⟩⟩
                case measure => simp [intOf]; omega
            · have hbx : (x.2 == id) = false := by simpa using hxi
              go_wp2_with fail
              go_round
              case rel =>
                refine ⟨j + 1, by go_num, by omega, .inl ⟨rfl, rfl, fun i y hi hy => ?_⟩⟩
                by_cases ej : i = j
                · subst ej; rw [Hx.out] at hy; cases hy; exact hxi
                · exact Hno.out i y (by omega) hy
              case measure => simp [intOf]; omega
          · rcases hbx : (x.2 == id) with _ | _
            all_goals
              go_wp2_with fail
              go_round
              case rel => exact ⟨j + 1, by go_num, by omega, .inr ⟨rfl, rfl⟩⟩
              case measure => simp [intOf]; omega
        · rcases hc with ⟨rfl, rfl, hno⟩ | ⟨rfl, rfl⟩
          · exfalso
            obtain ⟨i, hi⟩ := List.mem_iff_getElem?.1 HH.out.1
            exact hno i e (by have := (List.getElem?_eq_some_iff.1 hi).1; omega) hi HH.out.2.1
          · obtain rfl : j = es.length := by omega
            go_wp2_with fail
            go_roundw
            case rel => exact ⟨n + 1, ku, _, by go_num, rfl, rfl, HN.out, hk3⟩
            case measure => simp [intOf]; omega
end
end Go.Proofs.YtbcejodnjeklpaaDoor
