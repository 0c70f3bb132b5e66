/-
  The plain laws of ways through directories: what Find answers, as the program goes. No program in sight.
-/
import Derived.Test.YtbmalnllppamdaaGreatDoorB23
import Derived.Test.YtbmalnllppamdaaGreatDoorB10
import Derived.Test.YtbmalnllppamdaaGreatDoorB07

set_option linter.unusedSimpArgs false
set_option linter.unusedVariables false

set_option maxRecDepth 100000
namespace Go.Proofs.YtbmalnllppamdaaGreatDoor

/-- Where a path leads. -/
structure Plc where
  node : Int
  dir : Int
  name : ByteArray
def Plc.no : Plc := ⟨0, 0, ⟨#[]⟩⟩
def Plc.on (i : Int) : Plc := ⟨i, 0, ⟨#[]⟩⟩
def plcV (p : Plc) : Value := .agg #[.int .i64 p.node, .int .i64 p.dir, .string p.name]

/-- May one go through a directory? -/
def intoErr (d : Nds) (i : Int) : Int := if folderErr d i ≠ 0 then folderErr d i else if (nd d i).mode / 64 % 2 = 0 then 19 else 0

structure StepR where
  p : Plc
  t : ByteArray
  e : Int
  n : Nat

abbrev dotB : ByteArray := ⟨#[46]⟩
abbrev dotsB : ByteArray := ⟨#[46, 46]⟩

/-- A part of a path. -/
def stepR (d : Nds) (up : Int → Int) (at' : Int) (x : ByteArray) (follow : Bool) (n : Nat) : StepR :=
  if intoErr d at' ≠ 0 then ⟨.no, ⟨#[]⟩, intoErr d at', n⟩
  else if x = dotB then ⟨.on at', ⟨#[]⟩, 0, n⟩
  else if x = dotsB then ⟨.on (up at'), ⟨#[]⟩, 0, n⟩
  else if 255 < x.size then ⟨.no, ⟨#[]⟩, 18, n⟩
  else if lookErr d at' x ≠ 0 ∨ follow = false then ⟨⟨lookOf d at' x, at', x⟩, ⟨#[]⟩, 0, n⟩
  else if (nd d (lookOf d at' x)).kind ≠ 3 then ⟨⟨lookOf d at' x, at', x⟩, ⟨#[]⟩, 0, n⟩
  else if 40 < n + 1 then ⟨.no, ⟨#[]⟩, 17, n + 1⟩
  else ⟨⟨lookOf d at' x, at', x⟩, dataOf d (lookOf d at' x), 0, n + 1⟩

/-- A link's target, and the parts behind it. -/
def restB (t : ByteArray) (l : List ByteArray) (slash : Bool) : ByteArray :=
  if slash && !endS (l.foldl joinB t) then l.foldl joinB t ++ slashB else l.foldl joinB t

inductive Out where
  | fin (p : Plc)
  | err (e : Int)
  | again (at' : Int) (s : ByteArray) (n : Nat)

/-- Along the parts. -/
def scan (d : Nds) (up : Int → Int) (slash follow : Bool) : List ByteArray → Int → Nat → Plc → Out
  | [], _, _, p => .fin p
  | x :: r, at', n, _ =>
    let q := stepR d up at' x (!r.isEmpty || slash || follow) n
    if q.e ≠ 0 then .err q.e
    else if q.t ≠ ⟨#[]⟩ then .again at' (restB q.t r slash) q.n
    else if q.p.node = 0 ∧ r ≠ [] then .err 12
    else scan d up slash follow r q.p.node q.n q.p

/-- Where a path has led. -/
def endR (d : Nds) (p : Plc) (slash : Bool) : Plc × Int :=
  if slash = false ∨ p.node = 0 then (p, 0) else if (nd d p.node).kind ≠ 2 then (.no, 14) else (p, 0)

/-- Can a path be gone? -/
def pathErr (s : ByteArray) : Int := if s = ⟨#[]⟩ then 12 else if 4095 < s.size then 18 else if 0 ≤ bIdx s 0 then 11 else 0

/-- Find, behind so many links, with at most so many rounds to come. -/
def findR (d : Nds) (up : Int → Int) (follow : Bool) : Nat → Int → ByteArray → Nat → Plc × Int
  | 0, _, _, _ => (.no, 17)
  | fuel + 1, from', s, n =>
    if pathErr s ≠ 0 then (.no, pathErr s)
    else if prts s = [] then (.on (if absB s then 1 else from'), intoErr d (if absB s then 1 else from'))
    else match scan d up (endS s) follow (prts s) (if absB s then 1 else from') n (.on from') with
      | .fin p => endR d p (endS s)
      | .err e => (.no, e)
      | .again at' s' n' => findR d up follow fuel at' s' n'

theorem stepR_n (d : Nds) (up : Int → Int) (at' : Int) (x : ByteArray) (follow : Bool) (n : Nat) :
    n ≤ (stepR d up at' x follow n).n ∧ ((stepR d up at' x follow n).e = 0 → (stepR d up at' x follow n).t ≠ ⟨#[]⟩ → (stepR d up at' x follow n).n = n + 1 ∧ n + 1 ≤ 40) ∧ ((stepR d up at' x follow n).e = 0 → n ≤ 40 → (stepR d up at' x follow n).n ≤ 40) := by
  unfold stepR
  split
  · exact ⟨Nat.le_refl _, fun h => absurd h (by assumption), fun h _ => absurd h (by assumption)⟩
  split
  · exact ⟨Nat.le_refl _, fun _ h => absurd rfl h, fun _ h => h⟩
  split
  · exact ⟨Nat.le_refl _, fun _ h => absurd rfl h, fun _ h => h⟩
  split
  · exact ⟨Nat.le_refl _, fun h => absurd h (show ¬ (18 : Int) = 0 by decide), fun h => absurd h (show ¬ (18 : Int) = 0 by decide)⟩
  split
  · exact ⟨Nat.le_refl _, fun _ h => absurd rfl h, fun _ h => h⟩
  split
  · exact ⟨Nat.le_refl _, fun _ h => absurd rfl h, fun _ h => h⟩
  split
  · exact ⟨Nat.le_succ _, fun h => absurd h (show ¬ (17 : Int) = 0 by decide), fun h => absurd h (show ¬ (17 : Int) = 0 by decide)⟩
  · exact ⟨Nat.le_succ _, fun _ _ => ⟨rfl, by omega⟩, fun _ _ => by show n + 1 ≤ 40; omega⟩

theorem joinB_size (a b : ByteArray) : (joinB a b).size ≤ a.size + b.size + 1 := by
  unfold joinB
  split
  · omega
  split
  · rw [ByteArray.size_append]; omega
  · rw [ByteArray.size_append, ByteArray.size_append]
    show a.size + 1 + b.size ≤ _
    omega

theorem fold_size (l : List ByteArray) (m : Nat) (hl : ∀ x ∈ l, x.size ≤ m) : ∀ t : ByteArray, (l.foldl joinB t).size ≤ t.size + l.length * (m + 1) := by
  induction l with
  | nil => intro t; simp
  | cons x r ih =>
    intro t
    have h1 := ih (fun y hy => hl y (by simp [hy])) (joinB t x)
    have h2 := joinB_size t x
    have h3 := hl x (by simp)
    rw [List.foldl_cons, List.length_cons, Nat.succ_mul]
    omega

theorem restB_size (t : ByteArray) (l : List ByteArray) (slash : Bool) (m : Nat) (hl : ∀ x ∈ l, x.size ≤ m) : (restB t l slash).size ≤ t.size + l.length * (m + 1) + 1 := by
  have := fold_size l m hl t
  unfold restB
  split
  · rw [ByteArray.size_append]
    show _ + 1 ≤ _
    omega
  · omega

theorem isOn_abs (s : ByteArray) (hs : ¬ s = ⟨#[]⟩) (h : prts s = []) : absB s = true := by
  by_cases ha : s.data.toList[0]? = some 47
  · exact decide_eq_true ha
  · exfalso
    have : ∀ p ∈ pcs s, p = ⟨#[]⟩ := by
      intro p hp
      have := List.filter_eq_nil_iff.1 h p hp
      simpa using this
    unfold pcs at this
    cases hd : s.data.toList with
    | nil => exact hs (eq_of_data (by rw [hd]))
    | cons c l =>
      rw [hd] at this ha
      have hc : ¬ c = 47 := fun e => ha (by rw [e]; rfl)
      unfold pcsL at this
      rw [if_neg hc] at this
      cases hp : pcsL l with
      | nil => exact pcsL_ne _ hp
      | cons q r =>
        rw [hp] at this
        have := this (ofL (c :: q)) (by simp)
        have h2 := congrArg (fun s : ByteArray => s.data.toList) this
        simp [ofL] at h2

end Go.Proofs.YtbmalnllppamdaaGreatDoor

/-
  Layer 6, plain: what is above a directory is told by the entries alone. No program in sight.
-/
set_option maxRecDepth 100000
namespace Go.Proofs.YtbmalnllppamdaaGreatDoor

/-- The directory above, by the entries. -/
noncomputable def upC (d : Nds) (i : Int) : Int := if i = 1 then 1 else @dite _ (∃ j, Par d j i) (Classical.propDecidable _) (fun h => Classical.choose h) (fun _ => 0)

theorem upC_par {d : Nds} (hI : DInv d) {i j : Int} (h1 : i ≠ 1) (h : Par d j i) (par_one : ∀ {i j j' : Int}, Par d j i → Par d j' i → j = j') : upC d i = j := by
  unfold upC
  rw [if_neg h1, dif_pos ⟨j, h⟩]
  exact par_one (Classical.choose_spec (⟨j, h⟩ : ∃ j, Par d j i)) h

theorem upC_none {d : Nds} {i : Int} (h1 : i ≠ 1) (h : ¬ ∃ j, Par d j i) : upC d i = 0 := by
  unfold upC
  rw [if_neg h1, dif_neg h]

/-- Two that agree on the directories lead to the same. -/
def UpEq (d : Nds) (up up' : Int → Int) : Prop := ∀ i, folderErr d i = 0 → up i = up' i

section
variable {d : Nds} {up up' : Int → Int}

theorem stepR_up (h : UpEq d up up') (at' : Int) (x : ByteArray) (fl : Bool) (n : Nat) : stepR d up at' x fl n = stepR d up' at' x fl n := by
  unfold stepR
  by_cases hi : intoErr d at' ≠ 0
  · rw [if_pos hi, if_pos hi]
  · have h0 : intoErr d at' = 0 := Classical.not_not.1 hi
    have hf : folderErr d at' = 0 := by
      unfold intoErr at h0
      exact Classical.byContradiction fun hf => by rw [if_pos hf] at h0; exact hf h0
    rw [if_neg hi, if_neg hi, h at' hf]

theorem scan_up (h : UpEq d up up') (slash follow : Bool) : ∀ (l : List ByteArray) (at' : Int) (n : Nat) (p : Plc), scan d up slash follow l at' n p = scan d up' slash follow l at' n p
  | [], _, _, _ => rfl
  | x :: r, at', n, p => by
    unfold scan
    rw [stepR_up h]
    simp only [scan_up h slash follow r]

theorem find_up (h : UpEq d up up') (follow : Bool) : ∀ (fuel : Nat) (from' : Int) (s : ByteArray) (n : Nat), findR d up follow fuel from' s n = findR d up' follow fuel from' s n
  | 0, _, _, _ => rfl
  | fuel + 1, from', s, n => by
    unfold findR
    rw [scan_up h]
    simp only [find_up h follow fuel]
end
end Go.Proofs.YtbmalnllppamdaaGreatDoor

/-
  Layer 5, plain: dots and slashes ahead of a path. No program in sight.
-/
set_option maxRecDepth 100000
namespace Go.Proofs.YtbmalnllppamdaaGreatDoor

theorem prts_dot (s : ByteArray) : prts ((⟨#[46, 47]⟩ : ByteArray) ++ s) = dotB :: prts s := by
  unfold prts pcs
  rw [show ((⟨#[46, 47]⟩ : ByteArray) ++ s).data.toList = [46] ++ 47 :: s.data.toList by simp, pcsL_cut [46] _ (by simp)]
  rfl

theorem prts_slash (s : ByteArray) : prts ((⟨#[47]⟩ : ByteArray) ++ s) = prts s := by
  unfold prts pcs
  rw [show ((⟨#[47]⟩ : ByteArray) ++ s).data.toList = [] ++ 47 :: s.data.toList by simp, pcsL_cut [] _ (by simp)]
  rfl

theorem prts_dots (s : ByteArray) : prts ((⟨#[46, 46, 47]⟩ : ByteArray) ++ s) = dotsB :: prts s := by
  unfold prts pcs
  rw [show ((⟨#[46, 46, 47]⟩ : ByteArray) ++ s).data.toList = [46, 46] ++ 47 :: s.data.toList by simp, pcsL_cut [46, 46] _ (by simp)]
  rfl

theorem prts_up (s : ByteArray) : prts ((⟨#[46, 46, 47, 46, 47, 47]⟩ : ByteArray) ++ s) = dotsB :: dotB :: prts s := by
  rw [← prts_slash s, ← prts_dot, ← prts_dots, ← ByteArray.append_assoc, ← ByteArray.append_assoc]
  rfl

theorem prts_two (s : ByteArray) : prts ((⟨#[47, 47]⟩ : ByteArray) ++ s) = prts s := by
  rw [← prts_slash s, ← prts_slash, ← ByteArray.append_assoc]
  rfl

theorem endS_pre (p s : ByteArray) (h : 0 < s.size) : endS (p ++ s) = endS s := by
  unfold endS
  have e : (p ++ s).data.toList[(p ++ s).size - 1]? = s.data.toList[s.size - 1]? := by
    have hp := len_data p
    rw [ByteArray.size_append, show (p ++ s).data.toList = p.data.toList ++ s.data.toList by simp, List.getElem?_append_right (by omega)]
    congr 1
    omega
  rw [e, ByteArray.size_append]
  congr 1
  apply propext
  constructor
  · rintro ⟨_, h2⟩; exact ⟨h, h2⟩
  · rintro ⟨_, h2⟩; exact ⟨by omega, h2⟩

theorem hasB_pre (p s : ByteArray) (c : UInt8) (hp : hasB p c = false) : hasB (p ++ s) c = hasB s c := by
  unfold hasB at *
  rw [show (p ++ s).data.toList = p.data.toList ++ s.data.toList by simp, List.contains_eq_any_beq, List.any_append, ← List.contains_eq_any_beq, ← List.contains_eq_any_beq, hp, Bool.false_or]

/-- The error of a path is that of a path that has no such byte ahead. -/
theorem pathErr_pre (p s : ByteArray) (h : 0 < s.size) (hz : (p ++ s).size ≤ 4095) (hp : hasB p 0 = false) : pathErr (p ++ s) = pathErr s := by
  have hs : s.size ≤ 4095 := by rw [ByteArray.size_append] at hz; omega
  have n1 : ¬ s = ⟨#[]⟩ := fun e => by subst e; exact absurd h (by decide)
  have n2 : ¬ p ++ s = ⟨#[]⟩ := fun e => by
    have := congrArg ByteArray.size e
    rw [ByteArray.size_append] at this
    have h0 : (⟨#[]⟩ : ByteArray).size = 0 := rfl
    omega
  unfold pathErr
  have n3 : ¬ 4095 < s.size := by omega
  have n4 : ¬ 4095 < (p ++ s).size := by omega
  rw [if_neg n1, if_neg n2, if_neg n3, if_neg n4]
  have e : (0 ≤ bIdx (p ++ s) 0) ↔ (0 ≤ bIdx s 0) := by
    have a1 := bIdx_neg (p ++ s) 0
    have a2 := bIdx_neg s 0
    rw [hasB_pre p s 0 hp] at a1
    by_cases hb : hasB s 0 = false
    · have h1 := a1.2 hb
      have h2 := a2.2 hb
      omega
    · have h1 : ¬ bIdx (p ++ s) 0 < 0 := fun h => hb (a1.1 h)
      have h2 : ¬ bIdx s 0 < 0 := fun h => hb (a2.1 h)
      omega
  by_cases hb : 0 ≤ bIdx s 0
  · rw [if_pos hb, if_pos (e.2 hb)]
  · rw [if_neg hb, if_neg (fun h => hb (e.1 h))]

theorem scan_p {d : Nds} {up : Int → Int} {slash follow : Bool} {l : List ByteArray} {at' : Int} {n : Nat} (hl : l ≠ []) (p q : Plc) : scan d up slash follow l at' n p = scan d up slash follow l at' n q := by
  cases l with
  | nil => exact absurd rfl hl
  | cons x r => rfl

theorem scan_dot {d : Nds} {up : Int → Int} {slash follow : Bool} {r : List ByteArray} {at' : Int} {n : Nat} (hr : r ≠ []) (hin : intoErr d at' = 0) (h0 : at' ≠ 0) (p q : Plc) :
    scan d up slash follow (dotB :: r) at' n p = scan d up slash follow r at' n q := by
  rw [scan]
  have hs : stepR d up at' dotB (!r.isEmpty || slash || follow) n = ⟨.on at', ⟨#[]⟩, 0, n⟩ := by
    unfold stepR
    rw [if_neg (by simpa using hin), if_pos rfl]
  simp only [hs]
  rw [if_neg (by simp), if_neg (by simp), if_neg (fun h => h0 h.1)]
  exact scan_p hr _ _

theorem scan_dots {d : Nds} {up : Int → Int} {slash follow : Bool} {r : List ByteArray} {at' : Int} {n : Nat} (hr : r ≠ []) (hin : intoErr d at' = 0) (h0 : up at' ≠ 0) (p q : Plc) :
    scan d up slash follow (dotsB :: r) at' n p = scan d up slash follow r (up at') n q := by
  rw [scan]
  have hs : stepR d up at' dotsB (!r.isEmpty || slash || follow) n = ⟨.on (up at'), ⟨#[]⟩, 0, n⟩ := by
    unfold stepR
    rw [if_neg (by simpa using hin), if_neg (by decide), if_pos rfl]
  simp only [hs]
  rw [if_neg (by simp), if_neg (by simp), if_neg (fun h => h0 h.1)]
  exact scan_p hr _ _

theorem prts_some (s : ByteArray) (h0 : 0 < s.size) (h : ¬ absB s = true) : prts s ≠ [] := fun e => h (isOn_abs s (fun e => by subst e; exact absurd h0 (by decide)) e)

/-- Dots and slashes ahead lead to the same. -/
theorem dots_find {d : Nds} {up : Int → Int} (hin : intoErr d 1 = 0) (hu : up 1 = 1) (s : ByteArray) (h0 : 0 < s.size) (h1 : s.size ≤ 500) (hs : ¬ absB s = true) (follow : Bool) (fuel n : Nat) :
    findR d up follow (fuel + 1) 1 ((⟨#[46, 47]⟩ : ByteArray) ++ s) n = findR d up follow (fuel + 1) 1 s n ∧
    findR d up follow (fuel + 1) 1 ((⟨#[46, 46, 47, 46, 47, 47]⟩ : ByteArray) ++ s) n = findR d up follow (fuel + 1) 1 s n ∧
    findR d up follow (fuel + 1) 1 ((⟨#[47, 47]⟩ : ByteArray) ++ s) n = findR d up follow (fuel + 1) 1 s n := by
  have hp := prts_some s h0 hs
  have key : ∀ (p : ByteArray), p.size ≤ 6 → hasB p 0 = false → (∀ q, scan d up (endS s) follow (prts (p ++ s)) 1 n q = scan d up (endS s) follow (prts s) 1 n q) → prts (p ++ s) ≠ [] → findR d up follow (fuel + 1) 1 (p ++ s) n = findR d up follow (fuel + 1) 1 s n := by
    intro p hz hb hsc hne
    rw [findR, findR]
    rw [pathErr_pre p s h0 (by rw [ByteArray.size_append]; omega) hb, endS_pre p s h0, if_neg hne, if_neg hp]
    simp only [ite_self]
    rw [hsc]
  refine ⟨key _ (by decide) (by decide) (fun q => ?_) ?_, key _ (by decide) (by decide) (fun q => ?_) ?_, key _ (by decide) (by decide) (fun q => ?_) ?_⟩
  · rw [prts_dot]; exact scan_dot hp hin (by decide) _ _
  · rw [prts_dot]; simp
  · rw [prts_up, scan_dots (q := q) (by simp) hin (by rw [hu]; decide), hu]; exact scan_dot hp hin (by decide) _ _
  · rw [prts_up]; simp
  · rw [prts_two]
  · rw [prts_two]; exact hp

end Go.Proofs.YtbmalnllppamdaaGreatDoor
