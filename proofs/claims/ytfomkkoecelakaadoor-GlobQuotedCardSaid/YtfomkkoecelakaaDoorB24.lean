/-
  The plain laws of ways through directories: what Find answers, as the program goes. No program in sight.
-/
import Derived.Test.YtfomkkoecelakaaDoorB23
import Derived.Test.YtfomkkoecelakaaDoorB10
import Derived.Test.YtfomkkoecelakaaDoorB07
import Derived.Test.YtfomkkoecelakaaDoorB09

set_option linter.unusedSimpArgs false
set_option linter.unusedVariables false

set_option maxRecDepth 100000
namespace Go.Proofs.YtfomkkoecelakaaDoor

/-- Where a path leads. -/
structure Plc where
  node : Int
  dir : Int
  name : ByteArray
def Plc.no : Plc := ⟨0, 0, ⟨#[]⟩⟩
def Plc.on (i : Int) : Plc := ⟨i, 0, ⟨#[]⟩⟩
def plcV (p : Plc) : Value := .agg #[.int .i64 p.node, .int .i64 p.dir, .string p.name]

/-- May one go through a directory? -/
def intoErr (d : Nds) (i : Int) : Int := if folderErr d i ≠ 0 then folderErr d i else if (nd d i).mode / 64 % 2 = 0 then 19 else 0

structure StepR where
  p : Plc
  t : ByteArray
  e : Int
  n : Nat

abbrev dotB : ByteArray := ⟨#[46]⟩
abbrev dotsB : ByteArray := ⟨#[46, 46]⟩

/-- A part of a path. -/
def stepR (d : Nds) (up : Int → Int) (at' : Int) (x : ByteArray) (follow : Bool) (n : Nat) : StepR :=
  if intoErr d at' ≠ 0 then ⟨.no, ⟨#[]⟩, intoErr d at', n⟩
  else if x = dotB then ⟨.on at', ⟨#[]⟩, 0, n⟩
  else if x = dotsB then ⟨.on (up at'), ⟨#[]⟩, 0, n⟩
  else if 255 < x.size then ⟨.no, ⟨#[]⟩, 18, n⟩
  else if lookErr d at' x ≠ 0 ∨ follow = false then ⟨⟨lookOf d at' x, at', x⟩, ⟨#[]⟩, 0, n⟩
  else if (nd d (lookOf d at' x)).kind ≠ 3 then ⟨⟨lookOf d at' x, at', x⟩, ⟨#[]⟩, 0, n⟩
  else if 40 < n + 1 then ⟨.no, ⟨#[]⟩, 17, n + 1⟩
  else ⟨⟨lookOf d at' x, at', x⟩, dataOf d (lookOf d at' x), 0, n + 1⟩

/-- A link's target, and the parts behind it. -/
def restB (t : ByteArray) (l : List ByteArray) (slash : Bool) : ByteArray :=
  if slash && !endS (l.foldl joinB t) then l.foldl joinB t ++ slashB else l.foldl joinB t

inductive Out where
  | fin (p : Plc)
  | err (e : Int)
  | again (at' : Int) (s : ByteArray) (n : Nat)

/-- Along the parts. -/
def scan (d : Nds) (up : Int → Int) (slash follow : Bool) : List ByteArray → Int → Nat → Plc → Out
  | [], _, _, p => .fin p
  | x :: r, at', n, _ =>
    let q := stepR d up at' x (!r.isEmpty || slash || follow) n
    if q.e ≠ 0 then .err q.e
    else if q.t ≠ ⟨#[]⟩ then .again at' (restB q.t r slash) q.n
    else if q.p.node = 0 ∧ r ≠ [] then .err 12
    else scan d up slash follow r q.p.node q.n q.p

/-- Where a path has led. -/
def endR (d : Nds) (p : Plc) (slash : Bool) : Plc × Int :=
  if slash = false ∨ p.node = 0 then (p, 0) else if (nd d p.node).kind ≠ 2 then (.no, 14) else (p, 0)

/-- Can a path be gone? -/
def pathErr (s : ByteArray) : Int := if s = ⟨#[]⟩ then 12 else if 4095 < s.size then 18 else if 0 ≤ bIdx s 0 then 11 else 0

/-- Find, behind so many links, with at most so many rounds to come. -/
def findR (d : Nds) (up : Int → Int) (follow : Bool) : Nat → Int → ByteArray → Nat → Plc × Int
  | 0, _, _, _ => (.no, 17)
  | fuel + 1, from', s, n =>
    if pathErr s ≠ 0 then (.no, pathErr s)
    else if prts s = [] then (.on (if absB s then 1 else from'), intoErr d (if absB s then 1 else from'))
    else match scan d up (endS s) follow (prts s) (if absB s then 1 else from') n (.on from') with
      | .fin p => endR d p (endS s)
      | .err e => (.no, e)
      | .again at' s' n' => findR d up follow fuel at' s' n'

theorem stepR_n (d : Nds) (up : Int → Int) (at' : Int) (x : ByteArray) (follow : Bool) (n : Nat) :
    n ≤ (stepR d up at' x follow n).n ∧ ((stepR d up at' x follow n).e = 0 → (stepR d up at' x follow n).t ≠ ⟨#[]⟩ → (stepR d up at' x follow n).n = n + 1 ∧ n + 1 ≤ 40) ∧ ((stepR d up at' x follow n).e = 0 → n ≤ 40 → (stepR d up at' x follow n).n ≤ 40) := by
  unfold stepR
  split
  · exact ⟨Nat.le_refl _, fun h => absurd h (by assumption), fun h _ => absurd h (by assumption)⟩
  split
  · exact ⟨Nat.le_refl _, fun _ h => absurd rfl h, fun _ h => h⟩
  split
  · exact ⟨Nat.le_refl _, fun _ h => absurd rfl h, fun _ h => h⟩
  split
  · exact ⟨Nat.le_refl _, fun h => absurd h (show ¬ (18 : Int) = 0 by decide), fun h => absurd h (show ¬ (18 : Int) = 0 by decide)⟩
  split
  · exact ⟨Nat.le_refl _, fun _ h => absurd rfl h, fun _ h => h⟩
  split
  · exact ⟨Nat.le_refl _, fun _ h => absurd rfl h, fun _ h => h⟩
  split
  · exact ⟨Nat.le_succ _, fun h => absurd h (show ¬ (17 : Int) = 0 by decide), fun h => absurd h (show ¬ (17 : Int) = 0 by decide)⟩
  · exact ⟨Nat.le_succ _, fun _ _ => ⟨rfl, by omega⟩, fun _ _ => by show n + 1 ≤ 40; omega⟩

theorem joinB_size (a b : ByteArray) : (joinB a b).size ≤ a.size + b.size + 1 := by
  unfold joinB
  split
  · omega
  split
  · rw [ByteArray.size_append]; omega
  · rw [ByteArray.size_append, ByteArray.size_append]
    show a.size + 1 + b.size ≤ _
    omega

theorem fold_size (l : List ByteArray) (m : Nat) (hl : ∀ x ∈ l, x.size ≤ m) : ∀ t : ByteArray, (l.foldl joinB t).size ≤ t.size + l.length * (m + 1) := by
  induction l with
  | nil => intro t; simp
  | cons x r ih =>
    intro t
    have h1 := ih (fun y hy => hl y (by simp [hy])) (joinB t x)
    have h2 := joinB_size t x
    have h3 := hl x (by simp)
    rw [List.foldl_cons, List.length_cons, Nat.succ_mul]
    omega

theorem restB_size (t : ByteArray) (l : List ByteArray) (slash : Bool) (m : Nat) (hl : ∀ x ∈ l, x.size ≤ m) : (restB t l slash).size ≤ t.size + l.length * (m + 1) + 1 := by
  have := fold_size l m hl t
  unfold restB
  split
  · rw [ByteArray.size_append]
    show _ + 1 ≤ _
    omega
  · omega

theorem isOn_abs (s : ByteArray) (hs : ¬ s = ⟨#[]⟩) (h : prts s = []) : absB s = true := by
  by_cases ha : s.data.toList[0]? = some 47
  · exact decide_eq_true ha
  · exfalso
    have : ∀ p ∈ pcs s, p = ⟨#[]⟩ := by
      intro p hp
      have := List.filter_eq_nil_iff.1 h p hp
      simpa using this
    unfold pcs at this
    cases hd : s.data.toList with
    | nil => exact hs (eq_of_data (by rw [hd]))
    | cons c l =>
      rw [hd] at this ha
      have hc : ¬ c = 47 := fun e => ha (by rw [e]; rfl)
      unfold pcsL at this
      rw [if_neg hc] at this
      cases hp : pcsL l with
      | nil => exact pcsL_ne _ hp
      | cons q r =>
        rw [hp] at this
        have := this (ofL (c :: q)) (by simp)
        have h2 := congrArg (fun s : ByteArray => s.data.toList) this
        simp [ofL] at h2

end Go.Proofs.YtfomkkoecelakaaDoor

/-
  Layer 6, plain: what is above a directory is told by the entries alone. No program in sight.
-/
set_option maxRecDepth 100000
namespace Go.Proofs.YtfomkkoecelakaaDoor

/-- The directory above, by the entries. -/
noncomputable def upC (d : Nds) (i : Int) : Int := if i = 1 then 1 else @dite _ (∃ j, Par d j i) (Classical.propDecidable _) (fun h => Classical.choose h) (fun _ => 0)

theorem upC_par {d : Nds} (hI : DInv d) {i j : Int} (h1 : i ≠ 1) (h : Par d j i) (par_one : ∀ {i j j' : Int}, Par d j i → Par d j' i → j = j') : upC d i = j := by
  unfold upC
  rw [if_neg h1, dif_pos ⟨j, h⟩]
  exact par_one (Classical.choose_spec (⟨j, h⟩ : ∃ j, Par d j i)) h

theorem upC_none {d : Nds} {i : Int} (h1 : i ≠ 1) (h : ¬ ∃ j, Par d j i) : upC d i = 0 := by
  unfold upC
  rw [if_neg h1, dif_neg h]

/-- Two that agree on the directories lead to the same. -/
def UpEq (d : Nds) (up up' : Int → Int) : Prop := ∀ i, folderErr d i = 0 → up i = up' i

section
variable {d : Nds} {up up' : Int → Int}

theorem stepR_up (h : UpEq d up up') (at' : Int) (x : ByteArray) (fl : Bool) (n : Nat) : stepR d up at' x fl n = stepR d up' at' x fl n := by
  unfold stepR
  by_cases hi : intoErr d at' ≠ 0
  · rw [if_pos hi, if_pos hi]
  · have h0 : intoErr d at' = 0 := Classical.not_not.1 hi
    have hf : folderErr d at' = 0 := by
      unfold intoErr at h0
      exact Classical.byContradiction fun hf => by rw [if_pos hf] at h0; exact hf h0
    rw [if_neg hi, if_neg hi, h at' hf]

theorem scan_up (h : UpEq d up up') (slash follow : Bool) : ∀ (l : List ByteArray) (at' : Int) (n : Nat) (p : Plc), scan d up slash follow l at' n p = scan d up' slash follow l at' n p
  | [], _, _, _ => rfl
  | x :: r, at', n, p => by
    unfold scan
    rw [stepR_up h]
    simp only [scan_up h slash follow r]

theorem find_up (h : UpEq d up up') (follow : Bool) : ∀ (fuel : Nat) (from' : Int) (s : ByteArray) (n : Nat), findR d up follow fuel from' s n = findR d up' follow fuel from' s n
  | 0, _, _, _ => rfl
  | fuel + 1, from', s, n => by
    unfold findR
    rw [scan_up h]
    simp only [find_up h follow fuel]
end
end Go.Proofs.YtfomkkoecelakaaDoor

/-
  Layer 5, plain: dots and slashes ahead of a path. No program in sight.
-/
set_option maxRecDepth 100000
namespace Go.Proofs.YtfomkkoecelakaaDoor

theorem prts_dot (s : ByteArray) : prts ((⟨#[46, 47]⟩ : ByteArray) ++ s) = dotB :: prts s := by
  unfold prts pcs
  rw [show ((⟨#[46, 47]⟩ : ByteArray) ++ s).data.toList = [46] ++ 47 :: s.data.toList by simp, pcsL_cut [46] _ (by simp)]
  rfl

theorem prts_slash (s : ByteArray) : prts ((⟨#[47]⟩ : ByteArray) ++ s) = prts s := by
  unfold prts pcs
  rw [show ((⟨#[47]⟩ : ByteArray) ++ s).data.toList = [] ++ 47 :: s.data.toList by simp, pcsL_cut [] _ (by simp)]
  rfl

theorem prts_dots (s : ByteArray) : prts ((⟨#[46, 46, 47]⟩ : ByteArray) ++ s) = dotsB :: prts s := by
  unfold prts pcs
  rw [show ((⟨#[46, 46, 47]⟩ : ByteArray) ++ s).data.toList = [46, 46] ++ 47 :: s.data.toList by simp, pcsL_cut [46, 46] _ (by simp)]
  rfl

theorem prts_up (s : ByteArray) : prts ((⟨#[46, 46, 47, 46, 47, 47]⟩ : ByteArray) ++ s) = dotsB :: dotB :: prts s := by
  rw [← prts_slash s, ← prts_dot, ← prts_dots, ← ByteArray.append_assoc, ← ByteArray.append_assoc]
  rfl

theorem prts_two (s : ByteArray) : prts ((⟨#[47, 47]⟩ : ByteArray) ++ s) = prts s := by
  rw [← prts_slash s, ← prts_slash, ← ByteArray.append_assoc]
  rfl

theorem endS_pre (p s : ByteArray) (h : 0 < s.size) : endS (p ++ s) = endS s := by
  unfold endS
  have e : (p ++ s).data.toList[(p ++ s).size - 1]? = s.data.toList[s.size - 1]? := by
    have hp := len_data p
    rw [ByteArray.size_append, show (p ++ s).data.toList = p.data.toList ++ s.data.toList by simp, List.getElem?_append_right (by omega)]
    congr 1
    omega
  rw [e, ByteArray.size_append]
  congr 1
  apply propext
  constructor
  · rintro ⟨_, h2⟩; exact ⟨h, h2⟩
  · rintro ⟨_, h2⟩; exact ⟨by omega, h2⟩

theorem hasB_pre (p s : ByteArray) (c : UInt8) (hp : hasB p c = false) : hasB (p ++ s) c = hasB s c := by
  unfold hasB at *
  rw [show (p ++ s).data.toList = p.data.toList ++ s.data.toList by simp, List.contains_eq_any_beq, List.any_append, ← List.contains_eq_any_beq, ← List.contains_eq_any_beq, hp, Bool.false_or]

/-- The error of a path is that of a path that has no such byte ahead. -/
theorem pathErr_pre (p s : ByteArray) (h : 0 < s.size) (hz : (p ++ s).size ≤ 4095) (hp : hasB p 0 = false) : pathErr (p ++ s) = pathErr s := by
  have hs : s.size ≤ 4095 := by rw [ByteArray.size_append] at hz; omega
  have n1 : ¬ s = ⟨#[]⟩ := fun e => by subst e; exact absurd h (by decide)
  have n2 : ¬ p ++ s = ⟨#[]⟩ := fun e => by
    have := congrArg ByteArray.size e
    rw [ByteArray.size_append] at this
    have h0 : (⟨#[]⟩ : ByteArray).size = 0 := rfl
    omega
  unfold pathErr
  have n3 : ¬ 4095 < s.size := by omega
  have n4 : ¬ 4095 < (p ++ s).size := by omega
  rw [if_neg n1, if_neg n2, if_neg n3, if_neg n4]
  have e : (0 ≤ bIdx (p ++ s) 0) ↔ (0 ≤ bIdx s 0) := by
    have a1 := bIdx_neg (p ++ s) 0
    have a2 := bIdx_neg s 0
    rw [hasB_pre p s 0 hp] at a1
    by_cases hb : hasB s 0 = false
    · have h1 := a1.2 hb
      have h2 := a2.2 hb
      omega
    · have h1 : ¬ bIdx (p ++ s) 0 < 0 := fun h => hb (a1.1 h)
      have h2 : ¬ bIdx s 0 < 0 := fun h => hb (a2.1 h)
      omega
  by_cases hb : 0 ≤ bIdx s 0
  · rw [if_pos hb, if_pos (e.2 hb)]
  · rw [if_neg hb, if_neg (fun h => hb (e.1 h))]

theorem scan_p {d : Nds} {up : Int → Int} {slash follow : Bool} {l : List ByteArray} {at' : Int} {n : Nat} (hl : l ≠ []) (p q : Plc) : scan d up slash follow l at' n p = scan d up slash follow l at' n q := by
  cases l with
  | nil => exact absurd rfl hl
  | cons x r => rfl

theorem scan_dot {d : Nds} {up : Int → Int} {slash follow : Bool} {r : List ByteArray} {at' : Int} {n : Nat} (hr : r ≠ []) (hin : intoErr d at' = 0) (h0 : at' ≠ 0) (p q : Plc) :
    scan d up slash follow (dotB :: r) at' n p = scan d up slash follow r at' n q := by
  rw [scan]
  have hs : stepR d up at' dotB (!r.isEmpty || slash || follow) n = ⟨.on at', ⟨#[]⟩, 0, n⟩ := by
    unfold stepR
    rw [if_neg (by simpa using hin), if_pos rfl]
  simp only [hs]
  rw [if_neg (by simp), if_neg (by simp), if_neg (fun h => h0 h.1)]
  exact scan_p hr _ _

theorem scan_dots {d : Nds} {up : Int → Int} {slash follow : Bool} {r : List ByteArray} {at' : Int} {n : Nat} (hr : r ≠ []) (hin : intoErr d at' = 0) (h0 : up at' ≠ 0) (p q : Plc) :
    scan d up slash follow (dotsB :: r) at' n p = scan d up slash follow r (up at') n q := by
  rw [scan]
  have hs : stepR d up at' dotsB (!r.isEmpty || slash || follow) n = ⟨.on (up at'), ⟨#[]⟩, 0, n⟩ := by
    unfold stepR
    rw [if_neg (by simpa using hin), if_neg (by decide), if_pos rfl]
  simp only [hs]
  rw [if_neg (by simp), if_neg (by simp), if_neg (fun h => h0 h.1)]
  exact scan_p hr _ _

theorem prts_some (s : ByteArray) (h0 : 0 < s.size) (h : ¬ absB s = true) : prts s ≠ [] := fun e => h (isOn_abs s (fun e => by subst e; exact absurd h0 (by decide)) e)

/-- Dots and slashes ahead lead to the same. -/
theorem dots_find {d : Nds} {up : Int → Int} (hin : intoErr d 1 = 0) (hu : up 1 = 1) (s : ByteArray) (h0 : 0 < s.size) (h1 : s.size ≤ 500) (hs : ¬ absB s = true) (follow : Bool) (fuel n : Nat) :
    findR d up follow (fuel + 1) 1 ((⟨#[46, 47]⟩ : ByteArray) ++ s) n = findR d up follow (fuel + 1) 1 s n ∧
    findR d up follow (fuel + 1) 1 ((⟨#[46, 46, 47, 46, 47, 47]⟩ : ByteArray) ++ s) n = findR d up follow (fuel + 1) 1 s n ∧
    findR d up follow (fuel + 1) 1 ((⟨#[47, 47]⟩ : ByteArray) ++ s) n = findR d up follow (fuel + 1) 1 s n := by
  have hp := prts_some s h0 hs
  have key : ∀ (p : ByteArray), p.size ≤ 6 → hasB p 0 = false → (∀ q, scan d up (endS s) follow (prts (p ++ s)) 1 n q = scan d up (endS s) follow (prts s) 1 n q) → prts (p ++ s) ≠ [] → findR d up follow (fuel + 1) 1 (p ++ s) n = findR d up follow (fuel + 1) 1 s n := by
    intro p hz hb hsc hne
    rw [findR, findR]
    rw [pathErr_pre p s h0 (by rw [ByteArray.size_append]; omega) hb, endS_pre p s h0, if_neg hne, if_neg hp]
    simp only [ite_self]
    rw [hsc]
  refine ⟨key _ (by decide) (by decide) (fun q => ?_) ?_, key _ (by decide) (by decide) (fun q => ?_) ?_, key _ (by decide) (by decide) (fun q => ?_) ?_⟩
  · rw [prts_dot]; exact scan_dot hp hin (by decide) _ _
  · rw [prts_dot]; simp
  · rw [prts_up, scan_dots (q := q) (by simp) hin (by rw [hu]; decide), hu]; exact scan_dot hp hin (by decide) _ _
  · rw [prts_up]; simp
  · rw [prts_two]
  · rw [prts_two]; exact hp

end Go.Proofs.YtfomkkoecelakaaDoor

/-
  Layer 5, plain: the path of a directory from the root. No program in sight.
-/
set_option maxRecDepth 100000
namespace Go.Proofs.YtfomkkoecelakaaDoor

def slB (s : ByteArray) : ByteArray := if s = ⟨#[]⟩ then ⟨#[]⟩ else slashB ++ s

/-- From a directory, behind which s has been found, the whole path is W. -/
inductive WP (d : Nds) : Int → ByteArray → ByteArray → Prop
  | root (s : ByteArray) : WP d 1 s (slashB ++ s)
  | step {i u : Int} {s W : ByteArray} {e : Ent} : (nd d i).kind = 2 → e ∈ (nd d u).ents → e.2 = i → WP d u (e.1 ++ slB s) W → WP d i s W

section
variable {d : Nds} {up : Int → Int}

theorem WP.ex (hI : DInv d) (hl : ∀ i, has d i → i ≠ 1 → 0 < cnt d i) (i : Int) (hi : (nd d i).kind = 2) : ∀ s, ∃ W, WP d i s W := by
  have := hI.acyc i
  induction this with
  | intro i _ ih =>
    intro s
    by_cases h1 : i = 1
    · subst h1; exact ⟨_, .root s⟩
    · have := hl i (by unfold has; rw [hi]; decide) h1
      obtain ⟨j, e, he, h2⟩ := cnt_pos.1 this
      have hp : Par d j i := ⟨hi, e, he, h2⟩
      obtain ⟨W, hW⟩ := ih j hp (hp.dir hI) (e.1 ++ slB s)
      exact ⟨W, .step hi he h2 hW⟩

theorem WP.at_root (hI : DInv d) {s W : ByteArray} (h : WP d 1 s W) : W = slashB ++ s := by
  cases h with
  | root => rfl
  | step h1 h2 h3 _ => exact absurd h3 (hI.tgt _ _ h2).2

/-- The directory above, and the entry there. -/
theorem WP.above (hI : DInv d) {i : Int} {s W : ByteArray} (h : WP d i s W) (h1 : i ≠ 1) : (nd d i).kind = 2 ∧ ∃ u e, Par d u i ∧ e ∈ (nd d u).ents ∧ e.2 = i ∧ (∀ x ∈ (nd d u).ents, x.2 = i → x = e) ∧ WP d u (e.1 ++ slB s) W := by
  cases h with
  | root => exact absurd rfl h1
  | step hk he h2 hW => exact ⟨hk, _, _, ⟨hk, _, he, h2⟩, he, h2, fun x hx hxi => (hI.named_once hk hx hxi he h2).2, hW⟩

theorem slB_prts (n s : ByteArray) (h1 : ¬ n = ⟨#[]⟩) (h2 : hasB n 47 = false) : prts (n ++ slB s) = n :: prts s := by
  have h3 : ∀ c ∈ n.data.toList, ¬ c = 47 := by
    intro c hc e
    subst e
    unfold hasB at h2
    rw [List.contains_eq_any_beq, List.any_eq_false] at h2
    exact h2 _ hc (by simp)
  unfold slB
  split
  · next e =>
    subst e
    have : n ++ (⟨#[]⟩ : ByteArray) = n := by apply eq_of_data; simp
    rw [this]
    unfold prts pcs
    rw [pcsL_none _ h3]
    show List.filter _ [ofL n.data.toList] = _ :: List.filter _ [_]
    rw [ofL_data]
    simp [h1, ofL]
  · unfold prts pcs
    rw [show (n ++ (slashB ++ s)).data.toList = n.data.toList ++ 47 :: s.data.toList by simp, pcsL_cut _ _ h3, List.map_cons, ofL_data]
    simp [h1]

theorem okName_parts {n : ByteArray} (h : okName n = true) : ¬ n = ⟨#[]⟩ ∧ n ≠ dotB ∧ n ≠ dotsB ∧ n.size ≤ 255 ∧ hasB n 47 = false := by
  unfold okName at h
  simp only [Bool.and_eq_true, decide_eq_true_eq, Bool.not_eq_true', bne_iff_ne, ne_eq] at h
  obtain ⟨⟨⟨⟨⟨h1, h2⟩, h3⟩, h4⟩, h5⟩, h6⟩ := h
  refine ⟨fun e => ?_, fun e => ?_, fun e => ?_, h2, h5⟩
  · subst e; exact absurd h1 (by decide)
  · subst e; exact h3 rfl
  · subst e; exact h4 rfl

/-- Along these parts one comes to i, or has an error. -/
def Leads (d : Nds) (up : Int → Int) (i : Int) (l : List ByteArray) : Prop := ∀ slash r n p,
  (∃ e, e ≠ 0 ∧ scan d up slash true (l ++ r) 1 n p = .err e) ∨ ∃ q, (l ≠ [] → q.node = i) ∧ (l = [] → q = p ∧ i = 1) ∧ scan d up slash true (l ++ r) 1 n p = scan d up slash true r i n q

theorem Leads.root : Leads d up 1 [] := fun _ _ _ p => .inr ⟨p, fun h => absurd rfl h, fun _ => ⟨rfl, rfl⟩, rfl⟩

theorem Leads.step (hI : DInv d) {u i : Int} {l : List ByteArray} {e : Ent} (h : Leads d up u l) (hk : (nd d i).kind = 2) (he : e ∈ (nd d u).ents) (h2 : e.2 = i) : Leads d up i (l ++ [e.1]) := by
  intro slash r n p
  obtain ⟨n1, n2, n3, n4, n5⟩ := okName_parts ((hI.node u).names e he)
  have hi0 : i ≠ 0 := fun h0 => by rw [h0, hI.zero] at hk; cases hk
  have hu : (nd d u).kind = 2 := Par.dir hI ⟨hk, e, he, h2⟩
  have hf : folderErr d u = 0 := by
    unfold folderErr
    rw [if_neg (by rw [hu]; decide), if_pos hu]
  have hg : entGet (nd d u).ents e.1 = some i := (entGet_iff (hI.node u).rising).2 (by rw [← h2]; exact he)
  have hle : lookErr d u e.1 = 0 := by
    unfold lookErr
    rw [if_neg (by rw [hf]; simp), hg]
    rfl
  have hlo : lookOf d u e.1 = i := by
    unfold lookOf
    rw [if_neg (by rw [hf]; simp), hg]
    rfl
  rw [List.append_assoc]
  rcases h slash ([e.1] ++ r) n p with ⟨x, hx, hs⟩ | ⟨q, _, _, hs⟩
  · exact .inl ⟨x, hx, hs⟩
  · by_cases hin : intoErr d u = 0
    · refine .inr ⟨⟨i, u, e.1⟩, fun _ => rfl, fun h => absurd h (by simp), ?_⟩
      rw [hs]
      show scan d up slash true (e.1 :: r) u n q = _
      rw [scan]
      have hst : stepR d up u e.1 (!r.isEmpty || slash || true) n = ⟨⟨i, u, e.1⟩, ⟨#[]⟩, 0, n⟩ := by
        unfold stepR
        rw [if_neg (by rw [hin]; simp), if_neg n2, if_neg n3, if_neg (by omega), if_neg (by rw [hle]; simp), if_pos (by rw [hlo, hk]; decide), hlo]
      simp only [hst]
      rw [if_neg (by simp), if_neg (by simp), if_neg (fun h => hi0 h.1)]
    · refine .inl ⟨intoErr d u, hin, ?_⟩
      rw [hs]
      show scan d up slash true (e.1 :: r) u n q = _
      rw [scan]
      have hst : stepR d up u e.1 (!r.isEmpty || slash || true) n = ⟨.no, ⟨#[]⟩, intoErr d u, n⟩ := by
        unfold stepR
        rw [if_pos hin]
      simp only [hst]
      rw [if_pos hin]

/-- The whole path's parts lead to the directory. -/
theorem WP.parts (hI : DInv d) {i : Int} {s W : ByteArray} (h : WP d i s W) : ∃ l, prts W = l ++ prts s ∧ Leads d up i l := by
  induction h with
  | root s => exact ⟨[], prts_slash s, Leads.root⟩
  | @step i u s W e hk he h2 _ ih =>
    obtain ⟨l, h3, h4⟩ := ih
    obtain ⟨n1, n2, n3, n4, n5⟩ := okName_parts ((hI.node u).names e he)
    refine ⟨l ++ [e.1], ?_, h4.step hI hk he h2⟩
    rw [h3, slB_prts _ _ n1 n5]
    simp

/-- Find of the whole path leads to the directory, or has an error. -/
theorem whole_find (hI : DInv d) {i : Int} {W : ByteArray} (hi : (nd d i).kind = 2) (h : WP d i ⟨#[]⟩ W) (fuel n : Nat) : (findR d up true (fuel + 1) 1 W n).2 ≠ 0 ∨ (findR d up true (fuel + 1) 1 W n).1.node = i := by
  obtain ⟨l, h1, h2⟩ := h.parts (up := up) hI
  have h0 : prts (⟨#[]⟩ : ByteArray) = [] := by decide
  rw [h0, List.append_nil] at h1
  rw [findR]
  by_cases hp : pathErr W ≠ 0
  · rw [if_pos hp]; exact .inl hp
  rw [if_neg hp, h1]
  simp only [ite_self]
  have h3 := h2 (endS W) [] n (.on 1)
  rw [List.append_nil] at h3
  by_cases hl : l = []
  · rw [if_pos hl]
    right
    rcases h3 with ⟨e, _, hs⟩ | ⟨q, _, hq, _⟩
    · rw [hl] at hs; cases hs
    · exact (hq hl).2.symm
  · rw [if_neg hl]
    rcases h3 with ⟨e, he, hs⟩ | ⟨q, hq, _, hs⟩
    · rw [hs]; exact .inl he
    · rw [hs]
      simp only [scan]
      right
      unfold endR
      have hk : (nd d q.node).kind = 2 := by rw [hq hl]; exact hi
      split
      · exact hq hl
      · rw [if_neg (by rw [hk]; decide)]
        exact hq hl
end
end Go.Proofs.YtfomkkoecelakaaDoor
