/-
  The plain laws of paths: what stands between slashes, joining, ends. No program in sight.
-/
import Derived.Test.YtfomkkoecelakaaDoorB03
import Derived.Lib.SplitLaws
import Derived.Test.YtfomkkoecelakaaDoorProg
import Derived.Test.YtfomkkoecelakaaDoorB04
import Derived.Shelf.Strings.SplitCore
import Derived.Shelf.Strings.Count

set_option linter.unusedSimpArgs false
set_option linter.unusedVariables false

set_option maxRecDepth 100000
namespace Go.Proofs.YtfomkkoecelakaaDoor

/-- The slash. -/
abbrev slashB : ByteArray := ⟨#[47]⟩

/-- What stands ahead of, between and behind slashes. -/
def pcsL : List UInt8 → List (List UInt8)
  | [] => [[]]
  | c :: s => if c = 47 then [] :: pcsL s else match pcsL s with
    | [] => [[c]]
    | p :: r => (c :: p) :: r

theorem pcsL_ne : ∀ s, pcsL s ≠ []
  | [] => by simp [pcsL]
  | c :: s => by
    unfold pcsL
    split
    · simp
    · split <;> simp

theorem pcsL_none : ∀ s : List UInt8, (∀ c ∈ s, ¬ c = 47) → pcsL s = [s]
  | [], _ => rfl
  | c :: s, h => by
    unfold pcsL
    rw [if_neg (h c (by simp)), pcsL_none s (fun x hx => h x (by simp [hx]))]

theorem pcsL_cut : ∀ (p s : List UInt8), (∀ c ∈ p, ¬ c = 47) → pcsL (p ++ 47 :: s) = p :: pcsL s
  | [], s, _ => by simp [pcsL]
  | c :: p, s, h => by
    show pcsL (c :: (p ++ 47 :: s)) = _
    rw [pcsL, if_neg (h c (by simp)), pcsL_cut p s (fun x hx => h x (by simp [hx]))]

def ofL (l : List UInt8) : ByteArray := ⟨l.toArray⟩
theorem ofL_data (s : ByteArray) : ofL s.data.toList = s := by cases s; simp [ofL]
theorem ofL_toList (l : List UInt8) : (ofL l).data.toList = l := by simp [ofL]
theorem len_data (s : ByteArray) : s.data.toList.length = s.size := (Lib.size_eq s).symm
theorem data_extract (s : ByteArray) (i j : Nat) : (s.extract i j).data.toList = (s.data.toList.take j).drop i := by
  rw [Lib.extract_data, List.drop_take]

/-- The pieces of a text. -/
def pcs (s : ByteArray) : List ByteArray := (pcsL s.data.toList).map ofL
/-- A path's parts. -/
def prts (s : ByteArray) : List ByteArray := (pcs s).filter fun p => !decide (p = ⟨#[]⟩)

theorem pcs_none (s : ByteArray) (f : Nat) (hf : f ≤ s.size) (h : ∀ (j : Nat) (hj : j < s.size), f ≤ j → ¬ s[j] = 47) : pcs (s.extract f s.size) = [s.extract f s.size] := by
  unfold pcs
  rw [pcsL_none]
  · rw [List.map_cons, List.map_nil, ofL_data]
  · intro c hc
    rw [data_extract] at hc
    obtain ⟨k, hk, e⟩ := List.mem_iff_getElem.1 hc
    simp only [List.getElem_drop, List.getElem_take] at e
    simp only [List.length_drop, List.length_take] at hk
    have h2 : f + k < s.size := by omega
    have := h (f + k) h2 (by omega)
    rw [← e]
    exact this

theorem pcs_cut (s : ByteArray) (f k : Nat) (hf : f ≤ k) (hk : k < s.size) (hc : s[k] = 47) (h : ∀ (j : Nat) (hj : j < s.size), f ≤ j → j < k → ¬ s[j] = 47) :
    pcs (s.extract f s.size) = s.extract f k :: pcs (s.extract (k + 1) s.size) := by
  have hl : s.data.toList.length = s.size := len_data s
  have e : (s.extract f s.size).data.toList = (s.extract f k).data.toList ++ 47 :: (s.extract (k + 1) s.size).data.toList := by
    rw [data_extract, data_extract, data_extract, List.take_of_length_le (by omega)]
    apply List.ext_getElem?
    intro i
    by_cases hi : i < k - f
    · rw [List.getElem?_append_left (by simp; omega)]
      simp only [List.getElem?_drop, List.getElem?_take]
      rw [if_pos (by omega)]
    · rw [List.getElem?_append_right (by simp; omega)]
      have e2 : ((s.data.toList.take k).drop f).length = k - f := by simp; omega
      rw [e2]
      by_cases hj : i - (k - f) = 0
      · rw [hj, List.getElem?_cons_zero, List.getElem?_drop, show f + i = k by omega, List.getElem?_eq_getElem (by omega)]
        rw [← hc]; rfl
      · obtain ⟨n, hn⟩ : ∃ n, i - (k - f) = n + 1 := ⟨i - (k - f) - 1, by omega⟩
        rw [hn, List.getElem?_cons_succ, List.getElem?_drop, List.getElem?_drop]
        congr 1
        omega
  unfold pcs
  rw [e, pcsL_cut]
  · rw [List.map_cons, ofL_data]
  · intro c hc
    rw [data_extract] at hc
    obtain ⟨n, hn, e⟩ := List.mem_iff_getElem.1 hc
    simp only [List.getElem_drop, List.getElem_take] at e
    simp only [List.length_drop, List.length_take] at hn
    have h2 : f + n < s.size := by omega
    rw [← e]
    exact h (f + n) h2 (by omega) (by omega)

theorem extract_all (s : ByteArray) : s.extract 0 s.size = s := by
  apply eq_of_data
  rw [data_extract, List.drop_zero, List.take_of_length_le (by rw [len_data]; exact Nat.le_refl _)]

/-- The length of a piece. -/
theorem pcs_size (s : ByteArray) : ∀ p ∈ pcs s, p.size ≤ s.size := by
  have key : ∀ l : List UInt8, ∀ p ∈ pcsL l, p.length ≤ l.length := by
    intro l
    induction l with
    | nil => intro p hp; simp [pcsL] at hp; subst hp; simp
    | cons c l ih =>
      intro p hp
      unfold pcsL at hp
      split at hp
      · rcases List.mem_cons.1 hp with h | h
        · subst h; simp
        · have := ih p h; simp; omega
      · cases h : pcsL l with
        | nil => exact absurd h (pcsL_ne l)
        | cons q r =>
          rw [h] at hp ih
          rcases List.mem_cons.1 hp with h2 | h2
          · subst h2; have := ih q (by simp); simp; omega
          · have := ih p (by simp [h2]); simp; omega
  intro p hp
  obtain ⟨l, hl, rfl⟩ := List.mem_map.1 hp
  have := key _ l hl
  rw [← len_data (ofL l), ofL_toList]
  rwa [len_data] at this

theorem pcs_length (s : ByteArray) : (pcs s).length ≤ s.size + 1 := by
  have key : ∀ l : List UInt8, (pcsL l).length ≤ l.length + 1 := by
    intro l
    induction l with
    | nil => simp [pcsL]
    | cons c l ih =>
      unfold pcsL
      split
      · simp; omega
      · split
        · simp
        · rename_i q r h; rw [h] at ih; simp at ih ⊢; omega
  have := key s.data.toList
  rw [len_data] at this
  rw [pcs, List.length_map]
  exact this

theorem prts_length (s : ByteArray) : (prts s).length ≤ s.size + 1 := Nat.le_trans (List.length_filter_le _ _) (pcs_length s)
theorem prts_size (s : ByteArray) : ∀ p ∈ prts s, p.size ≤ s.size := fun p hp => pcs_size s p (List.mem_filter.1 hp).1
theorem prts_ne (s : ByteArray) : ∀ p ∈ prts s, ¬ p = ⟨#[]⟩ := fun p hp => by simpa using (List.mem_filter.1 hp).2

/-- The last byte is a slash. -/
def endS (s : ByteArray) : Bool := decide (0 < s.size ∧ s.data.toList[s.size - 1]? = some 47)
/-- A path within another one. -/
def joinB (d n : ByteArray) : ByteArray := if d = ⟨#[]⟩ then n else if endS d then d ++ n else d ++ slashB ++ n
/-- Is a path absolute? -/
def absB (s : ByteArray) : Bool := decide (s.data.toList[0]? = some 47)

end Go.Proofs.YtfomkkoecelakaaDoor

/-
  The shelf's contract of strings.genSplit laid at this program (numbers by the shelf's own command, in plain words).
-/
set_option maxRecDepth 100000
namespace Go.Proofs.YtfomkkoecelakaaDoor
open Go Go.Shelf Go.RowKit

def lays221_ren : Go.Shelf.Ren :=
{
  f := fun x =>
    match x with
    | 221 => 59
    | 268 => 75
    | 138 => 76
    | 143 => 77
    | 195 => 88
    | 197 => 89
    | 218 => 90
    | 219 => 91
    | 260 => 94
    | 217 => 60
    | 225 => 95
    | 224 => 96
    | 267 => 97
    | 266 => 78
    | 314 => 100
    | n => n,
  t := fun x =>
    match x with
    | 9 => 9
    | 3 => 3
    | 31 => 22
    | 4 => 4
    | 0 => 0
    | 105 => 155
    | 21 => 21
    | 5 => 5
    | 46 => 157
    | 119 => 160
    | 139 => 163
    | 138 => 162
    | 146 => 165
    | 51 => 164
    | n => n,
  g := fun x =>
    match x with
    | 1 => 0
    | 3 => 1
    | 4 => 2
    | n => n }
theorem lays221 : Lays.n221 Tryd.prog lays221_ren :=
{ mixed := Eq.refl true, f138 := Eq.trans Tryd.func76 (congrArg some (Eq.refl (Body.n138 lays221_ren))),
  f143 := Eq.trans Tryd.func77 (congrArg some (Eq.refl (Body.n143 lays221_ren))),
  f195 := Eq.trans Tryd.func88 (congrArg some (Eq.refl (Body.n195 lays221_ren))),
  f197 := Eq.trans Tryd.func89 (congrArg some (Eq.refl (Body.n197 lays221_ren))),
  f217 := Eq.trans Tryd.func60 (congrArg some (Eq.refl (Body.n217 lays221_ren))),
  f218 := Eq.trans Tryd.func90 (congrArg some (Eq.refl (Body.n218 lays221_ren))),
  f219 := Eq.trans Tryd.func91 (congrArg some (Eq.refl (Body.n219 lays221_ren))),
  f221 := Eq.trans Tryd.func59 (congrArg some (Eq.refl (Body.n221 lays221_ren))),
  f224 := Eq.trans Tryd.func96 (congrArg some (Eq.refl (Body.n224 lays221_ren))),
  f225 := Eq.trans Tryd.func95 (congrArg some (Eq.refl (Body.n225 lays221_ren))),
  f260 := Eq.trans Tryd.func94 (congrArg some (Eq.refl (Body.n260 lays221_ren))),
  f266 := Eq.trans Tryd.func78 (congrArg some (Eq.refl (Body.n266 lays221_ren))),
  f267 := Eq.trans Tryd.func97 (congrArg some (Eq.refl (Body.n267 lays221_ren))),
  f268 := Eq.trans Tryd.func75 (congrArg some (Eq.refl (Body.n268 lays221_ren))),
  f314 := Eq.trans Tryd.func100 (congrArg some (Eq.refl (Body.n314 lays221_ren))), t0 := Tryd.underlying0,
  a0 := Tryd.isAgg0, z0 := Tryd.sizeOf0, v0 := Tryd.zeroValue0, t3 := Tryd.underlying3, a3 := Tryd.isAgg3,
  z3 := Tryd.sizeOf3, v3 := Tryd.zeroValue3, t4 := Tryd.underlying4, a4 := Tryd.isAgg4, z4 := Tryd.sizeOf4,
  v4 := Tryd.zeroValue4, t5 := Tryd.underlying5, a5 := Tryd.isAgg5, z5 := Tryd.sizeOf5, v5 := Tryd.zeroValue5,
  t9 := Tryd.underlying9, a9 := Tryd.isAgg9, z9 := Tryd.sizeOf9, v9 := Tryd.zeroValue9, t21 := Tryd.underlying21,
  a21 := Tryd.isAgg21, z21 := Tryd.sizeOf21, v21 := Tryd.zeroValue21, t31 := Tryd.underlying22, a31 := Tryd.isAgg22,
  z31 := Tryd.sizeOf22, v31 := Tryd.zeroValue22, t46 := Tryd.underlying157, a46 := Tryd.isAgg157, z46 := Tryd.sizeOf157,
  v46 := Tryd.zeroValue157, t51 := Tryd.underlying164, a51 := Tryd.isAgg164, z51 := Tryd.sizeOf164,
  v51 := Tryd.zeroValue164, t105 := Tryd.underlying155, a105 := Tryd.isAgg155, z105 := Tryd.sizeOf155,
  v105 := Tryd.zeroValue155, t119 := Tryd.underlying160, a119 := Tryd.isAgg160, z119 := Tryd.sizeOf160,
  t138 := Tryd.underlying162, a138 := Tryd.isAgg162, z138 := Tryd.sizeOf162, v138 := Tryd.zeroValue162,
  t139 := Tryd.underlying163, a139 := Tryd.isAgg163, z139 := Tryd.sizeOf163, v139 := Tryd.zeroValue163,
  t146 := Tryd.underlying165, a146 := Tryd.isAgg165, z146 := Tryd.sizeOf165, v146 := Tryd.zeroValue165,
  g1 := by kernel_rfl, g3 := by kernel_rfl,
  g4 := by kernel_rfl }


end Go.Proofs.YtfomkkoecelakaaDoor

/-
  Contracts of strings.Index, Count, Split at one slash, HasPrefix, HasSuffix, and of package path and the document's paths.
-/
set_option maxRecDepth 100000
namespace Go.Proofs.YtfomkkoecelakaaDoor
open Go Go.RowKit

theorem tStr : ElemT Tryd.prog encStr 22 9 ByteArray.empty 16 :=
  .of (.string ByteArray.empty) Tryd.underlying22 (by kernel_rfl) rfl

theorem isEmpty_eq (x : ByteArray) : x.toList.isEmpty = decide (x = ⟨#[]⟩) := by
  rw [Lib.toList_data, Bool.eq_iff_iff, List.isEmpty_iff, decide_eq_true_eq]
  exact ⟨fun h => eq_of_data (by rw [h]), fun h => by rw [h]⟩
theorem notEmpty_eq {x : ByteArray} (h : ¬ x = ⟨#[]⟩) : (!x.toList.isEmpty) = true := by rw [isEmpty_eq]; simpa using h

set_option maxHeartbeats 1000000 in
theorem slIndex1 (s : ByteArray) (w : World) :
    Calls Tryd.prog 91 #[.string s, .string slashB] w fun e w' => e = .returned (.int .i64 (bIdx s 47)) ∧ w' = w := by
  go_enter Tryd.func91, Tryd.ntmps91
  go_wp2
  · go_ret
    refine ⟨ret_i64 ?_, rfl⟩
    have h : ([47] == s.toList) = true := by assumption
    rw [Lib.toList_data, beq_iff_eq] at h
    rw [bIdx, ← h]
    rfl
  · rw [run_callFunc_extern Tryd.func78 (by kernel_rfl) (by kernel_rfl) (by kernel_rfl) (e := Extern.BytealgIndexByte.indexByte) (by kernel_rfl), run_indexByte_string]
    simp only [Result.andThen, Lib.firstIdx_eq]
    rw [Oper.upon_value]
    go_wp2
    go_ret
    exact ⟨rfl, rfl⟩

set_option maxHeartbeats 400000 in
theorem strIndex1 (s : ByteArray) (w : World) :
    Calls Tryd.prog 77 #[.string s, .string slashB] w fun e w' => e = .returned (.int .i64 (bIdx s 47)) ∧ w' = w := by
  go_enter Tryd.func77, Tryd.ntmps77
  go_wp2_with (go_at_call 91; refine (slIndex1 _ _).mono ?_; rintro e w' ⟨rfl, rfl⟩)
  go_ret
  exact ⟨rfl, rfl⟩

theorem bIdx_none {s : ByteArray} {c : UInt8} (h : bIdx s c = -1) (j : Nat) (hj : j < s.size) : ¬ s[j] = c := fun e =>
  Lib.indexByte_none h j (by rw [List.getElem?_eq_getElem (by rw [len_data]; exact hj)]; exact congrArg some e)
theorem bIdx_some {s : ByteArray} {c : UInt8} {o : Nat} (h : bIdx s c = o) : ∃ ho : o < s.size, s[o] = c ∧ ∀ (j : Nat) (hj : j < s.size), j < o → ¬ s[j] = c := by
  obtain ⟨h1, h2⟩ := Lib.indexByte_some h
  obtain ⟨h3, h4⟩ := List.getElem?_eq_some_iff.1 h1
  rw [len_data] at h3
  exact ⟨h3, h4, fun j hj hlt e => h2 j hlt (by rw [List.getElem?_eq_getElem (by rw [len_data]; exact hj)]; exact congrArg some e)⟩
theorem bIdx_cases (s : ByteArray) (c : UInt8) : bIdx s c = -1 ∨ ∃ o : Nat, bIdx s c = o := by
  have := Lib.indexByte_ge s.data.toList c
  unfold bIdx
  by_cases h : Lib.indexByte s.data.toList c = -1
  · exact .inl h
  · exact .inr ⟨(Lib.indexByte s.data.toList c).toNat, by omega⟩

theorem indexB_slash (s : ByteArray) : Lib.indexB s slashB = bIdx s 47 := Lib.index_one _ _

theorem splitB_pcs : ∀ (k : Nat) (s : ByteArray), Lib.countB s slashB = k → Lib.splitB slashB 0 k s = pcs s
  | 0, s, hk => by
    rw [Lib.splitB_zero]
    have := pcs_none s 0 (Nat.zero_le _) (fun j hj _ e => by
      have h1 : Lib.countB s slashB = s.data.toList.count 47 := Lib.count_one _ _
      rw [hk] at h1
      have := List.count_eq_zero.1 h1.symm
      exact this (List.mem_iff_getElem.2 ⟨j, by rw [len_data]; exact hj, e⟩))
    rw [extract_all] at this
    exact this.symm
  | k + 1, s, hk => by
    rcases Lib.indexB_cases s slashB with hix | ⟨i, hix, _⟩
    · rw [Lib.countB_miss s slashB hix] at hk; omega
    · rw [Lib.splitB_hit slashB 0 k s i hix]
      have h2 := Lib.countB_hit s slashB i (by decide) hix
      rw [splitB_pcs k _ (by omega)]
      rw [indexB_slash] at hix
      obtain ⟨ho, h3, h4⟩ := bIdx_some hix
      have := pcs_cut s 0 i (Nat.zero_le _) ho h3 (fun j hj _ h => h4 j hj h)
      rw [extract_all] at this
      rw [this]
      rfl

set_option maxHeartbeats 1000000 in
theorem split_any (s : ByteArray) (w : World) (hs : s.size < 4294967281) :
    Calls Tryd.prog 38 #[.string s, .string slashB] w fun e w' =>
      ∃ v, e = .returned v ∧ Own encStr 9 (fun g => w.heap.size ≤ g) w' v (pcs s) ∧ Keeps NoB w w' := by
  have hlen := Lib.splitB_all slashB (by decide) 0 _ s rfl
  have hle := Lib.countB_le slashB (by decide) s.size s (Nat.le_refl _)
  have c := Any.strings_genSplit_core lays221 (by kernel_rfl) s slashB 0 (-1) (Lib.countB s slashB + 1) w hs (by decide) (Nat.zero_le _)
    (fun x c hx => by
      refine (strIndex1 x _).mono ?_
      rintro e w' ⟨rfl, rfl⟩
      exact ⟨by rw [indexB_slash], rfl⟩)
    (by
      refine (Any.strings_Count_one { lays221 with } s 47 w).mono ?_
      rintro e w' ⟨rfl, rfl⟩
      refine ⟨?_, rfl⟩
      show Ending.returned (Value.int .i64 ((s.data.toList.count 47 : Nat) : Int)) = Ending.returned (Value.int .i64 ((Lib.count s.data.toList [47] : Nat) : Int))
      rw [Lib.count_one])
    (by decide) (by decide) (by rw [if_pos (by decide)]; omega)
  rw [Nat.add_sub_cancel, splitB_pcs _ s rfl] at c
  rw [splitB_pcs _ s rfl] at hlen
  rw [← hlen, Lib.cellsOf_full] at c
  have C := Lib.hid c
  clear c
  have hpl : (pcs s).length ≤ maxLen := by rw [hlen]; unfold maxLen; omega
  have Hp := Lib.hid hpl
  clear hpl hlen hle
  go_enter Tryd.func38, Tryd.ntmps38
  go_wp2_with (go_at_call 59; refine C.out.mono ?_; rintro e w' ⟨rfl, rfl⟩)
  go_ret
  refine ⟨_, rfl, own_lit (pcs s) _ ?_ _ rfl (Nat.le_refl _) Hp.out, (Keeps.refl _ _).alloc _⟩
  rw [List.toList_toArray]
  generalize pcs s = l
  induction l with
  | nil => rfl
  | cons a l ih => rw [List.map_cons, List.flatMap_cons, ih]; rfl

theorem filter_snoc_yes {α : Type} (l : List α) (p : α → Bool) (k : Nat) (x : α) (hx : l[k]? = some x) : (l.take (k + 1)).filter p = (l.take k).filter p ++ (if p x then [x] else []) := by
  rw [List.take_add_one, hx]
  simp [List.filter_append]
  split <;> simp_all

set_option maxHeartbeats 1000000 in
theorem parts_any (s : ByteArray) (w : World) (hs : s.size < 4294967281) :
    Calls Tryd.prog 42 #[.string s] w fun e w' =>
      ∃ v, e = .returned v ∧ Own encStr 9 (fun g => w.heap.size ≤ g) w' v (prts s) ∧ Keeps NoB w w' := by
  have hpl := pcs_length s
  have Hpl := Lib.hid hpl
  clear hpl
  have Hs := Lib.hid (split_any s)
  go_enter Tryd.func42, Tryd.ntmps42
  go_wp2_with (go_at_call 38; refine (Hs.out _ hs).mono ?_; rintro e w1 ⟨v1, rfl, ho1, hk1⟩; obtain ⟨p1, c1, rfl, hsl1⟩ := ho1.sl)
  have hpl := Hpl.out
  have hcap := hsl1.cap
  have hmax := hsl1.max
  unfold maxLen at hmax
  go_loopw [3, 9] (fun o i wr => ∃ k : Nat, k ≤ (pcs s).length ∧ i = .int .i64 k ∧ Own encStr 9 (fun g => w1.heap.size ≤ g) wr o ((pcs s).take k |>.filter fun p => !decide (p = ⟨#[]⟩)) ∧ Keeps NoB w1 wr) (fun _ i _ => (pcs s).length - (intOf i).toNat)
  case atStart => exact ⟨0, Nat.zero_le _, rfl, Own.nil _ _ _ _, Keeps.refl _ _⟩
  case round =>
    rename_i wr
    obtain ⟨k, hk, rfl, ho, hkp⟩ := hrel
    have Hkp := Lib.hid hkp
    have hsz := hkp.size
    clear hkp
    by_cases hlt : k < (pcs s).length
    · obtain ⟨x, hx⟩ : ∃ x, (pcs s)[k]? = some x := ⟨_, List.getElem?_eq_getElem hlt⟩
      obtain ⟨g, off, rfl, hS, hg, c0⟩ := (hsl1.keepN Hkp.out).str hx
      have Hsn := Lib.hid (filter_snoc_yes (pcs s) (fun p => !decide (p = ⟨#[]⟩)) k x hx)
      have hfl : ((pcs s).take k |>.filter fun p => !decide (p = ⟨#[]⟩)).length ≤ k := Nat.le_trans (List.length_filter_le _ _) (by simp; omega)
      clear hx
      by_cases hp : x = ⟨#[]⟩
      · have Hp := Lib.hid hp
        subst hp
        go_wp2
        go_roundw
        case rel => exact ⟨k + 1, by omega, by go_num, by rw [Hsn.out]; simpa using ho, Hkp.out⟩
        case measure => simp [intOf]; omega
      · have hne := notEmpty_eq hp
        go_wp2_with (at_builtin; refine wpl_append rfl (.tmp 15) (.tmp 17) rfl tStr (ho.keep ((Keeps.refl NoB _).alloc _) (fun _ _ h => h)) (own_lit (S := fun _ => True) [x] #[.string x] rfl 1 rfl trivial (by decide)).sl rfl rfl (by simp; omega) (by simp [maxLen]; omega) (by simp; omega) ?_; intro v' w' ho' hk' hf')
        go_roundw
        case rel =>
          refine ⟨k + 1, by omega, by go_num, ?_, Hkp.out.alloc _ |>.step hk' (fun g hg => Or.inr (ho.2 g hg))⟩
          rw [Hsn.out, if_pos (by simpa using hp)]
          exact ho'
        case measure => simp [intOf]; omega
    · go_wp2
      go_ret
      refine ⟨_, rfl, ?_, hk1.trans Hkp.out⟩
      rw [List.take_of_length_le (by omega)] at ho
      exact ho.mono (fun g _ hg => by have := hk1.size; omega)

end Go.Proofs.YtfomkkoecelakaaDoor

/-
  Contracts of HasPrefix and HasSuffix at a slash, of path.Absolute and path.Join, and of the document's Join, Pieces and Parts.
-/
set_option maxRecDepth 100000
namespace Go.Proofs.YtfomkkoecelakaaDoor
open Go Go.RowKit

theorem absB_raw (s : ByteArray) : (decide (1 ≤ s.size) && ((s.extract 0 1).toList == [47])) = absB s := by
  have := Lib.hasPrefix_raw s slashB
  rw [show slashB.toList = [47] from by rw [Lib.toList_data]] at this
  refine Eq.trans (show _ = (decide (slashB.size ≤ s.size) && ((s.extract 0 slashB.size).toList == [47])) from rfl) (this.trans ?_)
  unfold absB Lib.hasPrefix
  cases h : s.data.toList with
  | nil => rfl
  | cons c l =>
    rw [Bool.eq_iff_iff, decide_eq_true_eq, List.isPrefixOf_iff_prefix, List.getElem?_cons_zero]
    show [47] <+: c :: l ↔ _
    rw [List.cons_prefix_cons]
    exact ⟨fun h => congrArg some h.1.symm, fun h => ⟨(Option.some.inj h).symm, List.nil_prefix⟩⟩

theorem endS_raw (s : ByteArray) : (decide (1 ≤ s.size) && ((s.extract (s.size - 1) s.size).toList == [47])) = endS s := by
  have := Lib.hasSuffix_raw s slashB
  rw [show slashB.toList = [47] from by rw [Lib.toList_data]] at this
  refine Eq.trans (show _ = (decide (slashB.size ≤ s.size) && ((s.extract (s.size - slashB.size) s.size).toList == [47])) from rfl) (this.trans ?_)
  unfold endS Lib.hasSuffix
  rw [Bool.eq_iff_iff, decide_eq_true_eq, List.isSuffixOf_iff_suffix, ← len_data]
  show [47] <:+ _ ↔ _
  rcases List.eq_nil_or_concat s.data.toList with h | ⟨l, c, h⟩
  · rw [h]
    exact ⟨fun h => absurd (List.IsSuffix.length_le h) (by decide), fun h => absurd h.1 (by decide)⟩
  · rw [h, List.concat_eq_append, List.length_append, List.length_singleton, Nat.add_sub_cancel, List.getElem?_append_right (Nat.le_refl _), Nat.sub_self, List.getElem?_cons_zero]
    constructor
    · rintro ⟨t, ht⟩
      have := List.append_inj_right' ht rfl
      exact ⟨by omega, congrArg some (List.head_eq_of_cons_eq this).symm⟩
    · rintro ⟨_, h⟩
      rw [Option.some.inj h]
      exact ⟨l, rfl⟩

set_option maxHeartbeats 400000 in
theorem slhp1 (s : ByteArray) (w : World) :
    Calls Tryd.prog 79 #[.string s, .string slashB] w fun e w' => e = .returned (.bool (absB s)) ∧ w' = w := by
  go_enter Tryd.func79, Tryd.ntmps79
  have hr := absB_raw s
  have H := Lib.hid hr
  clear hr
  go_wp2
  all_goals
    go_ret
    refine ⟨ret_bool ?_, rfl⟩
    have h := H.out
    rcases Nat.lt_or_ge s.size 1 with h1 | h1
    · rw [← h, decide_eq_false (by omega)]; first | rfl | omega
    · rw [← h, decide_eq_true h1]; first | rfl | omega

set_option maxHeartbeats 400000 in
theorem hp1 (s : ByteArray) (w : World) :
    Calls Tryd.prog 61 #[.string s, .string slashB] w fun e w' => e = .returned (.bool (absB s)) ∧ w' = w := by
  go_enter Tryd.func61, Tryd.ntmps61
  go_wp2_with (go_at_call 79; refine (slhp1 _ _).mono ?_; rintro e w' ⟨rfl, rfl⟩)
  go_ret
  exact ⟨rfl, rfl⟩

set_option maxHeartbeats 400000 in
theorem abs_any (s : ByteArray) (w : World) :
    Calls Tryd.prog 41 #[.string s] w fun e w' => e = .returned (.bool (absB s)) ∧ w' = w := by
  go_enter Tryd.func41, Tryd.ntmps41
  go_wp2_with (go_at_call 61; refine (hp1 _ _).mono ?_; rintro e w' ⟨rfl, rfl⟩)
  go_ret
  exact ⟨rfl, rfl⟩

set_option maxHeartbeats 400000 in
theorem slhs1 (s : ByteArray) (w : World) (hs : s.size ≤ 4294967296) :
    Calls Tryd.prog 47 #[.string s, .string slashB] w fun e w' => e = .returned (.bool (endS s)) ∧ w' = w := by
  have hr := endS_raw s
  have H := Lib.hid hr
  clear hr
  go_enter Tryd.func47, Tryd.ntmps47
  go_wp2
  all_goals
    go_ret
    refine ⟨ret_bool ?_, rfl⟩
    have h := H.out
    rcases Nat.lt_or_ge s.size 1 with h1 | h1
    · rw [← h, decide_eq_false (by omega)]; first | rfl | omega
    · rw [← h, decide_eq_true h1]; first | rfl | omega

set_option maxHeartbeats 400000 in
theorem hs1 (s : ByteArray) (w : World) (hs : s.size ≤ 4294967296) :
    Calls Tryd.prog 24 #[.string s, .string slashB] w fun e w' => e = .returned (.bool (endS s)) ∧ w' = w := by
  go_enter Tryd.func24, Tryd.ntmps24
  go_wp2_with (go_at_call 47; refine (slhs1 _ _ hs).mono ?_; rintro e w' ⟨rfl, rfl⟩)
  go_ret
  exact ⟨rfl, rfl⟩

theorem append_toList (a b : ByteArray) : (a ++ b).data.toList = a.data.toList ++ b.data.toList := by
  rw [ByteArray.data_append, Array.toList_append]

set_option maxHeartbeats 400000 in
theorem join_any (d n : ByteArray) (w : World) (hs : d.size ≤ 4294967296) (hn : n.size ≤ 4294967296) :
    Calls Tryd.prog 65 #[.string d, .string n] w fun e w' => e = .returned (.string (joinB d n)) ∧ w' = w := by
  have H := Lib.hid (show joinB d n = if d.toList.isEmpty then n else if endS d then d ++ n else d ++ slashB ++ n by rw [isEmpty_eq]; unfold joinB; simp)
  go_enter Tryd.func65, Tryd.ntmps65
  go_wp2_with (go_at_call 24; refine (hs1 _ _ hs).mono ?_; rintro e w' ⟨rfl, rfl⟩)
  all_goals
    go_ret
    refine ⟨?_, rfl⟩
    rw [H.out]
    simp [*]

end Go.Proofs.YtfomkkoecelakaaDoor

/-
  Contracts of the document's Pieces, Parts and Join.
-/
set_option maxRecDepth 100000
namespace Go.Proofs.YtfomkkoecelakaaDoor
open Go Go.RowKit

theorem tStr2 : ElemT Tryd.prog encStr 22 9 ByteArray.empty 16 := tStr

theorem endS_last (d : ByteArray) (h : 1 ≤ d.size) : endS d = decide (d[d.size - 1] = 47) := by
  unfold endS
  rw [List.getElem?_eq_getElem (by rw [len_data]; omega), Bool.eq_iff_iff, decide_eq_true_eq, decide_eq_true_eq]
  exact ⟨fun h => Option.some.inj h.2, fun e => ⟨h, congrArg some e⟩⟩

end Go.Proofs.YtfomkkoecelakaaDoor
