/-
  Layer 5, plain: the rings and rows of links, and the document's example. No program in sight.
-/
import Derived.Test.YtbcejodnjeklpaaDoorB20
import Derived.Test.YtbcejodnjeklpaaDoorB24
import Derived.Test.YtbcejodnjeklpaaDoorB23

set_option linter.unusedSimpArgs false
set_option linter.unusedVariables false

set_option maxRecDepth 100000
namespace Go.Proofs.YtbcejodnjeklpaaDoor

theorem absB_head (s : ByteArray) (h : 1 ≤ s.size) : absB s = decide (s[0] = 47) := by
  unfold absB
  rw [List.getElem?_eq_getElem (by rw [len_data]; omega), Bool.eq_iff_iff, decide_eq_true_eq, decide_eq_true_eq]
  exact ⟨fun h => Option.some.inj h, fun e => congrArg some e⟩

theorem into_dir {d : Nds} {i : Int} (h : intoErr d i = 0) : folderErr d i = 0 := by
  unfold intoErr at h
  exact Classical.byContradiction fun hf => by rw [if_pos hf] at h; exact hf h

theorem dataOf_link {d : Nds} {i : Int} (h : (nd d i).kind = 3) : dataOf d i = (nd d i).data := by
  unfold dataOf
  rw [if_neg (by rw [h]; decide), if_neg (by rw [h]; decide)]

section
variable {d : Nds} {up : Int → Int} {at' : Int} {x : ByteArray} {n : Nat}

theorem step_look (hin : intoErr d at' = 0) (h1 : ¬ x = dotB) (h2 : ¬ x = dotsB) (h3 : x.size ≤ 255) {fl : Bool} {k : Int} (hg : entGet (nd d at').ents x = some k) :
    stepR d up at' x fl n = if fl = false then ⟨⟨k, at', x⟩, ⟨#[]⟩, 0, n⟩ else if (nd d k).kind ≠ 3 then ⟨⟨k, at', x⟩, ⟨#[]⟩, 0, n⟩ else if 40 < n + 1 then ⟨.no, ⟨#[]⟩, 17, n + 1⟩ else ⟨⟨k, at', x⟩, dataOf d k, 0, n + 1⟩ := by
  have hf := into_dir hin
  have hl : lookErr d at' x = 0 := by unfold lookErr; rw [if_neg (by rw [hf]; simp), hg]; rfl
  have ho : lookOf d at' x = k := by unfold lookOf; rw [if_neg (by rw [hf]; simp), hg]; rfl
  unfold stepR
  rw [if_neg (by rw [hin]; simp), if_neg h1, if_neg h2, if_neg (by omega), hl, ho]
  cases fl
  · simp
  · rw [if_neg (by simp)]
    simp

theorem step_none (hin : intoErr d at' = 0) (h1 : ¬ x = dotB) (h2 : ¬ x = dotsB) (h3 : x.size ≤ 255) {fl : Bool} (hg : entGet (nd d at').ents x = none) :
    stepR d up at' x fl n = ⟨⟨0, at', x⟩, ⟨#[]⟩, 0, n⟩ := by
  have hf := into_dir hin
  have hl : lookErr d at' x ≠ 0 := by unfold lookErr; rw [if_neg (by rw [hf]; simp), hg]; simp
  have ho : lookOf d at' x = 0 := by unfold lookOf; rw [if_neg (by rw [hf]; simp), hg]; rfl
  unfold stepR
  rw [if_neg (by rw [hin]; simp), if_neg h1, if_neg h2, if_neg (by omega), if_pos (.inl hl), ho]

theorem scan_one {slash follow : Bool} {q : StepR} {p : Plc} (hs : stepR d up at' x (slash || follow) n = q) :
    scan d up slash follow [x] at' n p = if q.e ≠ 0 then .err q.e else if q.t ≠ ⟨#[]⟩ then .again at' (restB q.t [] slash) q.n else .fin q.p := by
  unfold scan
  simp only [List.isEmpty_nil, Bool.not_true, Bool.false_or, hs]
  by_cases h1 : q.e ≠ 0
  · rw [if_pos h1, if_pos h1]
  rw [if_neg h1, if_neg h1]
  by_cases h2 : q.t ≠ ⟨#[]⟩
  · rw [if_pos h2, if_pos h2]
  rw [if_neg h2, if_neg h2, if_neg (fun h => h.2 rfl)]
  rfl

/-- One name alone. -/
theorem find_name {follow : Bool} {fuel : Nat} (hin : intoErr d 1 = 0) (hp : pathErr x = 0) (hl : prts x = [x]) (hs : endS x = false) (ha : absB x = false) (h1 : ¬ x = dotB) (h2 : ¬ x = dotsB) (h3 : x.size ≤ 255) {k : Int} (hg : entGet (nd d 1).ents x = some k) (_hk : k ≠ 0) :
    findR d up follow (fuel + 1) 1 x n = if follow = true ∧ (nd d k).kind = 3 then (if 40 < n + 1 then (.no, 17) else if (nd d k).data = ⟨#[]⟩ then (⟨k, 1, x⟩, 0) else findR d up follow fuel 1 (nd d k).data (n + 1)) else (⟨k, 1, x⟩, 0) := by
  rw [findR, if_neg (by rw [hp]; simp), hl, if_neg (by simp), hs, ha]
  simp only [Bool.false_eq_true, if_false]
  have hst := step_look (up := up) (n := n) (fl := follow) hin h1 h2 h3 hg
  by_cases hf : follow = false
  · subst hf
    rw [if_pos rfl] at hst
    rw [scan_one (slash := false) (follow := false) hst, if_neg (by simp)]
    simp [endR]
  · have hf : follow = true := by simpa using hf
    subst hf
    rw [if_neg (by simp)] at hst
    by_cases hk3 : (nd d k).kind = 3
    · rw [if_neg (by simp [hk3])] at hst
      rw [if_pos ⟨rfl, hk3⟩]
      by_cases h4 : 40 < n + 1
      · rw [if_pos h4] at hst
        rw [scan_one (slash := false) (follow := true) hst, if_pos h4]
        simp
      · rw [if_neg h4, dataOf_link hk3] at hst
        rw [scan_one (slash := false) (follow := true) hst, if_neg h4]
        by_cases he : (nd d k).data = ⟨#[]⟩
        · simp [he, endR]
        · simp [he, restB]
    · rw [if_pos hk3] at hst
      rw [scan_one (slash := false) (follow := true) hst]
      simp [endR, hk3]

end

-- the document's example
def anc5 : List N5 := [⟨0, ⟨#[100]⟩, 2, 493, ⟨#[]⟩⟩, ⟨0, ⟨#[108]⟩, 3, 0, ⟨#[100, 47, 46, 46]⟩⟩]

theorem bAt_one (x : Int) : bAt [1] x = 1 := by
  unfold bAt
  rw [show (x % 18446744073709551616).toNat % [(1 : Int)].length = 0 from Nat.mod_one _]
  rfl

theorem anc5_nodes : (∀ j, nd (builtD anc5).1 j = if j = 3 then ⟨3, 0, 0, ⟨#[100, 47, 46, 46]⟩, []⟩ else if j = 1 then ⟨2, 493, 0, ⟨#[]⟩, [(⟨#[100]⟩, 2), (⟨#[108]⟩, 3)]⟩ else if j = 2 then ⟨2, 493, 0, ⟨#[]⟩, []⟩ else Nd.gone) := by
  have b0 := bi_new
  obtain ⟨g1, g2, g3⟩ := enter_go (n := ⟨0, ⟨#[100]⟩, 2, 493, ⟨#[]⟩⟩) b0 (bAt_one _) (by decide) (by decide) (by decide) (by decide) (by decide) (by decide) (by decide) (by decide) (by decide) (by decide) (by decide)
  obtain ⟨h1, h2, h3⟩ := bOne_ok b0.inv b0.clean b0.bt.holds (bAt_one _) g1 g2 g3
  have b1 := bi_one b0 ⟨0, ⟨#[100]⟩, 2, 493, ⟨#[]⟩⟩
  generalize hs : bOne (newD, [1]) ⟨0, ⟨#[100]⟩, 2, 493, ⟨#[]⟩⟩ = s at *
  obtain ⟨d, l⟩ := s
  simp only at h1 h2 h3
  rw [if_pos trivial] at h1
  have hl : d.length = 3 := h2
  have hn1 : nd d 1 = ⟨2, 493, 0, ⟨#[]⟩, [(⟨#[100]⟩, 2)]⟩ := by rw [h3]; rfl
  have hat : bAt l 0 = 1 := by rw [h1]; decide
  obtain ⟨g1, g2, g3⟩ := enter_go (n := ⟨0, ⟨#[108]⟩, 3, 0, ⟨#[100, 47, 46, 46]⟩⟩) b1 hat (by decide) (by decide) (by decide) (by decide) (by decide) (by decide) (by decide) (by unfold folderErr; rw [hn1]; decide) (by rw [hn1]; decide) (by decide) (by decide)
  obtain ⟨i1, i2, i3⟩ := bOne_ok b1.inv b1.clean b1.bt.holds hat g1 g2 g3
  have hb : builtD anc5 = bOne (d, l) ⟨0, ⟨#[108]⟩, 3, 0, ⟨#[100, 47, 46, 46]⟩⟩ := by rw [← hs]; rfl
  rw [hb]
  intro j
  rw [i3, hl]
  by_cases j3 : j = 3
  · subst j3; rfl
  rw [if_neg (by simpa using j3), if_neg j3]
  by_cases j1 : j = 1
  · subst j1
    rw [if_pos rfl, if_pos rfl, hn1]
    have e : entPut [((⟨#[100]⟩ : ByteArray), (2 : Int))] ⟨#[108]⟩ 3 = [(⟨#[100]⟩, 2), (⟨#[108]⟩, 3)] := by decide
    exact congrArg (Nd.mk 2 493 0 ⟨#[]⟩) e
  rw [if_neg j1, if_neg j1, h3]
  by_cases j2 : j = 2
  · subst j2; rfl
  · rw [if_neg (show ¬ j = ((newD.length : Nat) : Int) from j2), if_neg j1, if_neg j2, nd_new, if_neg j1]

theorem anc5_find {up : Int → Int} (h2 : up 2 = 1) : findR (builtD anc5).1 up true 41 1 ⟨#[108, 47, 120]⟩ 0 = (⟨0, 1, ⟨#[120]⟩⟩, 0) := by
  have hN := anc5_nodes
  generalize (builtD anc5).1 = d at *
  have n1 := hN 1
  rw [if_neg (by decide), if_pos rfl] at n1
  have n2 := hN 2
  rw [if_neg (by decide), if_neg (by decide), if_pos rfl] at n2
  have n3 := hN 3
  rw [if_pos rfl] at n3
  clear hN
  have i1 : intoErr d 1 = 0 := by unfold intoErr folderErr; rw [n1]; decide
  have i2 : intoErr d 2 = 0 := by unfold intoErr folderErr; rw [n2]; decide
  have e1 : ∀ n, stepR d up 1 ⟨#[108]⟩ true n = if 40 < n + 1 then ⟨.no, ⟨#[]⟩, 17, n + 1⟩ else ⟨⟨3, 1, ⟨#[108]⟩⟩, ⟨#[100, 47, 46, 46]⟩, 0, n + 1⟩ := fun n => by
    rw [step_look i1 (by decide) (by decide) (by decide) (k := 3) (by rw [n1]; decide), n3, dataOf_link (by rw [n3]), n3]
    simp
  have e2 : ∀ n, stepR d up 1 ⟨#[100]⟩ true n = ⟨⟨2, 1, ⟨#[100]⟩⟩, ⟨#[]⟩, 0, n⟩ := fun n => by
    rw [step_look i1 (by decide) (by decide) (by decide) (k := 2) (by rw [n1]; decide), n2]
    simp
  have e3 : ∀ n, stepR d up 2 dotsB true n = ⟨.on 1, ⟨#[]⟩, 0, n⟩ := fun n => by
    unfold stepR
    rw [if_neg (by rw [i2]; simp), if_neg (by decide), if_pos rfl, h2]
  have e4 : ∀ n, stepR d up 1 ⟨#[120]⟩ true n = ⟨⟨0, 1, ⟨#[120]⟩⟩, ⟨#[]⟩, 0, n⟩ := fun n => step_none i1 (by decide) (by decide) (by decide) (by rw [n1]; decide)
  rw [findR, show pathErr (⟨#[108, 47, 120]⟩ : ByteArray) = 0 by decide, show prts (⟨#[108, 47, 120]⟩ : ByteArray) = [⟨#[108]⟩, ⟨#[120]⟩] by decide, show endS (⟨#[108, 47, 120]⟩ : ByteArray) = false by decide, show absB (⟨#[108, 47, 120]⟩ : ByteArray) = false by decide]
  simp only [ne_eq, not_true_eq_false, if_false, reduceCtorEq, Bool.false_eq_true]
  unfold scan
  simp only [List.isEmpty_cons, Bool.not_false, Bool.true_or, e1]
  simp only [show ¬ (40 < 0 + 1) by decide, if_false, ne_eq, not_true_eq_false]
  rw [if_pos (by decide)]
  simp only
  rw [show restB ⟨#[100, 47, 46, 46]⟩ [⟨#[120]⟩] false = ⟨#[100, 47, 46, 46, 47, 120]⟩ by decide]
  rw [findR, show pathErr (⟨#[100, 47, 46, 46, 47, 120]⟩ : ByteArray) = 0 by decide, show prts (⟨#[100, 47, 46, 46, 47, 120]⟩ : ByteArray) = [⟨#[100]⟩, dotsB, ⟨#[120]⟩] by decide, show endS (⟨#[100, 47, 46, 46, 47, 120]⟩ : ByteArray) = false by decide, show absB (⟨#[100, 47, 46, 46, 47, 120]⟩ : ByteArray) = false by decide]
  simp only [ne_eq, not_true_eq_false, if_false, reduceCtorEq, Bool.false_eq_true]
  unfold scan
  simp only [List.isEmpty_cons, Bool.not_false, Bool.true_or, e2, ne_eq, not_true_eq_false, if_false, reduceCtorEq, not_false_eq_true, and_true]
  rw [if_neg (by decide)]
  unfold scan
  simp only [List.isEmpty_cons, Bool.not_false, Bool.true_or, e3, Plc.on, ne_eq, not_true_eq_false, if_false, reduceCtorEq, not_false_eq_true, and_true]
  rw [if_neg (by decide)]
  unfold scan
  simp only [List.isEmpty_nil, Bool.not_true, Bool.false_or, e4, ne_eq, not_true_eq_false, if_false, and_false]
  unfold scan endR
  simp

end Go.Proofs.YtbcejodnjeklpaaDoor

/-
  Layer 5, plain: rings and rows of links. No program in sight.
-/
set_option maxRecDepth 100000
namespace Go.Proofs.YtbcejodnjeklpaaDoor

abbrev endB : ByteArray := ⟨#[101, 110, 100]⟩
/-- The i-th name. -/
def nmL (i : Nat) : ByteArray := ⟨#[(65 + i).toUInt8]⟩
/-- Where the i-th of n links leads. -/
def toL (n : Nat) (row : Bool) (i : Nat) : ByteArray := if row = true ∧ i + 1 = n then endB else nmL ((i + 1) % n)
def linkL (n : Nat) (row : Bool) (i : Nat) : N5 := ⟨0, nmL i, 3, 511, toL n row i⟩
def endL : N5 := ⟨0, endB, 1, 0, ⟨#[]⟩⟩
def linksL (n : Nat) (row : Bool) (k : Nat) : List N5 := (List.range k).map (linkL n row)
def ringL (n : Nat) (row : Bool) : List N5 := linksL n row n ++ [endL]

theorem linksL_succ (n : Nat) (row : Bool) (k : Nat) : linksL n row (k + 1) = linksL n row k ++ [linkL n row k] := by
  unfold linksL; rw [List.range_succ, List.map_append]; rfl
theorem linksL_len (n : Nat) (row : Bool) (k : Nat) : (linksL n row k).length = k := by simp [linksL]

theorem nmL_size (i : Nat) : (nmL i).size = 1 := rfl
theorem nmL_byte {i : Nat} (h : i < 60) : ((65 + i).toUInt8).toNat = 65 + i := by
  rw [Nat.toUInt8_eq, UInt8.toNat_ofNat']
  omega
theorem nmL_inj {i j : Nat} (hi : i < 60) (hj : j < 60) (h : nmL i = nmL j) : i = j := by
  have h1 := congrArg (fun s : ByteArray => s.data.toList) h
  have h2 : ((65 + i).toUInt8) = ((65 + j).toUInt8) := by simpa [nmL] using h1
  have h3 := congrArg UInt8.toNat h2
  rw [nmL_byte hi, nmL_byte hj] at h3
  omega
theorem nmL_end (i : Nat) : ¬ nmL i = endB := fun h => by
  have := congrArg ByteArray.size h
  rw [nmL_size] at this
  cases this

/-- What a name of one byte is. -/
structure Plain (x : ByteArray) : Prop where
  err : pathErr x = 0
  parts : prts x = [x]
  slash : endS x = false
  abs : absB x = false
  dot : ¬ x = dotB
  dots : ¬ x = dotsB
  size : x.size ≤ 255
  name : okName x = true
  ne : ¬ x = ⟨#[]⟩

theorem plain_end : Plain endB := ⟨by decide, by decide, by decide, by decide, by decide, by decide, by decide, by decide, by decide⟩
instance (x : ByteArray) : Decidable (Plain x) :=
  decidable_of_iff (pathErr x = 0 ∧ prts x = [x] ∧ endS x = false ∧ absB x = false ∧ ¬ x = dotB ∧ ¬ x = dotsB ∧ x.size ≤ 255 ∧ okName x = true ∧ ¬ x = ⟨#[]⟩)
    ⟨fun ⟨a, b, c, d, e, f, g, h, i⟩ => ⟨a, b, c, d, e, f, g, h, i⟩, fun ⟨a, b, c, d, e, f, g, h, i⟩ => ⟨a, b, c, d, e, f, g, h, i⟩⟩
theorem plain_nm {i : Nat} (h : i < 60) : Plain (nmL i) := by
  have : ∀ i, i < 60 → Plain (nmL i) := by decide +kernel
  exact this i h

theorem toL_plain {n : Nat} {row : Bool} {i : Nat} (hn : n ≤ 60) (hi : i < n) : Plain (toL n row i) := by
  unfold toL
  split
  · exact plain_end
  · exact plain_nm (by have := Nat.mod_lt (i + 1) (show 0 < n by omega); omega)
theorem toL_size {n : Nat} {row : Bool} {i : Nat} : (toL n row i).size ≤ 3 := by
  unfold toL
  split
  · decide
  · rw [nmL_size]; decide

theorem bytes_links (n : Nat) (row : Bool) : ∀ k, bytes5 (linksL n row k) ≤ 4 * k
  | 0 => by simp [linksL, bytes5]
  | k + 1 => by
    rw [linksL_succ, bytes5_snoc]
    have := bytes_links n row k
    have h1 : (linkL n row k).data.size ≤ 3 := toL_size
    have h2 : (linkL n row k).name.size = 1 := rfl
    omega

/-- Behind k links. -/
structure Lk (n : Nat) (row : Bool) (k : Nat) (s : Nds × List Int) : Prop where
  len : s.1.length = 2 + k
  dirs : s.2 = [1]
  kind : (nd s.1 1).kind = 2
  node : ∀ i, i < k → nd s.1 ((2 + i : Nat) : Int) = ⟨3, 511, 0, toL n row i, []⟩
  at' : ∀ i, i < k → entGet (nd s.1 1).ents (nmL i) = some ((2 + i : Nat) : Int)
  no : ∀ x, (∀ i, i < k → x ≠ nmL i) → entHas (nd s.1 1).ents x = false

theorem lk_all {n : Nat} {row : Bool} (hn : n ≤ 60) : ∀ k, k ≤ n → Lk n row k (builtD (linksL n row k)) := by
  intro k
  induction k with
  | zero => exact fun _ => ⟨rfl, rfl, rfl, fun i hi => by omega, fun i hi => by omega, fun _ _ => rfl⟩
  | succ k ih =>
    intro hk
    have J := ih (by omega)
    have B := bi_all (linksL n row k)
    rw [linksL_len] at B
    have hby := bytes_links n row k
    rw [linksL_succ, builtD_snoc]
    generalize builtD (linksL n row k) = s at *
    obtain ⟨d, l⟩ := s
    obtain ⟨j1, j2, j3, j4, j5, j6⟩ := J
    simp only at j1 j2 j3 j4 j5 j6
    subst j2
    have hpl := plain_nm (show k < 60 by omega)
    have hne : entHas (nd d 1).ents (nmL k) = false := j6 _ (fun i hi e => by have := nmL_inj (by omega) (by omega) e; omega)
    have hfo : folderErr d 1 = 0 := by unfold folderErr; rw [j3]; decide
    obtain ⟨g1, g2, g3⟩ := enter_go (n := linkL n row k) B (bAt_one _) (by show (1 : Int) ≤ 3; decide) (by show (3 : Int) ≤ 3; decide) (by show okMode 511 = true; decide) (fun h => by have h : (3 : Int) = 2 := h; cases h)
      (by have : (linkL n row k).data.size ≤ 3 := toL_size; omega) hpl.size hpl.name hfo hne (by omega) (by omega)
    obtain ⟨h1, h2, h3⟩ := bOne_ok B.inv B.clean B.bt.holds (bAt_one _) g1 g2 g3
    have hkk : ¬ (linkL n row k).kind = 2 := by show ¬ (3 : Int) = 2; decide
    rw [if_neg hkk] at h1
    generalize hs : bOne (d, [1]) (linkL n row k) = s2 at *
    have hr1 := (B.inv.node 1).rising
    simp only at hr1 h1 h2 h3
    have e1 : nd s2.1 1 = (nd d 1).setEnts (entPut (nd d 1).ents (nmL k) d.length) := by
      rw [h3, if_neg (by omega), if_pos rfl]; rfl
    refine ⟨by rw [h2, j1]; omega, h1, by rw [e1]; exact j3, fun i hi => ?_, fun i hi => ?_, fun x hx => ?_⟩
    · rw [h3, j1]
      by_cases hik : i = k
      · subst hik
        rw [if_pos rfl]; rfl
      · rw [if_neg (by omega), if_neg (by omega)]
        exact j4 i (by omega)
    · rw [e1]
      show entGet (entPut (nd d 1).ents (nmL k) d.length) (nmL i) = _
      by_cases hik : i = k
      · subst hik
        rw [entGet_put hr1 hne, j1]
      · rw [entGet_put_other hr1 hne (fun e => hik (nmL_inj (by omega) (by omega) e))]
        exact j5 i (by omega)
    · rw [e1]
      show entHas (entPut (nd d 1).ents (nmL k) d.length) x = false
      rw [entHas_put hne, j6 x (fun i hi => hx i (by omega)), decide_eq_false (hx k (by omega))]
      rfl

/-- The disk of a ring or row. -/
structure Ring (n : Nat) (row : Bool) (d : Nds) : Prop where
  node : ∀ i, i < n → nd d ((2 + i : Nat) : Int) = ⟨3, 511, 0, toL n row i, []⟩
  file : nd d ((2 + n : Nat) : Int) = ⟨1, 0, 0, ⟨#[]⟩, []⟩
  at' : ∀ i, i < n → entGet (nd d 1).ents (nmL i) = some ((2 + i : Nat) : Int)
  atEnd : entGet (nd d 1).ents endB = some ((2 + n : Nat) : Int)

theorem ring_all {n : Nat} {row : Bool} (hn : n ≤ 60) : Ring n row (builtD (ringL n row)).1 := by
  have J := lk_all (row := row) hn n (Nat.le_refl n)
  have B := bi_all (linksL n row n)
  rw [linksL_len] at B
  have hby := bytes_links n row n
  unfold ringL
  rw [builtD_snoc]
  generalize builtD (linksL n row n) = s at *
  obtain ⟨d, l⟩ := s
  obtain ⟨j1, j2, j3, j4, j5, j6⟩ := J
  simp only at j1 j2 j3 j4 j5 j6
  subst j2
  have hne : entHas (nd d 1).ents endB = false := j6 _ (fun i _ e => nmL_end i e.symm)
  have hfo : folderErr d 1 = 0 := by unfold folderErr; rw [j3]; decide
  obtain ⟨g1, g2, g3⟩ := enter_go (n := endL) B (bAt_one _) (by decide) (by decide) (by decide) (by decide) (by decide) (by decide) (by decide) hfo hne (by omega) (by omega)
  obtain ⟨h1, h2, h3⟩ := bOne_ok B.inv B.clean B.bt.holds (bAt_one _) g1 g2 g3
  generalize bOne (d, [1]) endL = s2 at *
  have hr1 := (B.inv.node 1).rising
  simp only at hr1 h3
  have e1 : nd s2.1 1 = (nd d 1).setEnts (entPut (nd d 1).ents endB d.length) := by
    rw [h3, if_neg (by omega), if_pos rfl]; rfl
  refine ⟨fun i hi => ?_, ?_, fun i hi => ?_, ?_⟩
  · rw [h3, j1, if_neg (by omega), if_neg (by omega)]
    exact j4 i hi
  · rw [h3, j1, if_pos rfl]; rfl
  · rw [e1]
    show entGet (entPut (nd d 1).ents endB d.length) (nmL i) = _
    rw [entGet_put_other hr1 hne (nmL_end i)]
    exact j5 i hi
  · rw [e1]
    show entGet (entPut (nd d 1).ents endB d.length) endB = _
    rw [entGet_put hr1 hne, j1]

section
variable {n : Nat} {row : Bool} {d : Nds} {up : Int → Int}

theorem ring_step (h : Ring n row d) (hn : n ≤ 60) (hin : intoErr d 1 = 0) {i m fuel : Nat} (hi : i < n) :
    findR d up true (fuel + 1) 1 (nmL i) m = if 40 < m + 1 then (.no, 17) else findR d up true fuel 1 (toL n row i) (m + 1) := by
  have P := plain_nm (show i < 60 by omega)
  have hne := (toL_plain (row := row) hn hi).ne
  rw [find_name hin P.err P.parts P.slash P.abs P.dot P.dots P.size (h.at' i hi) (by omega), h.node i hi, if_pos ⟨rfl, rfl⟩, if_neg hne]

/-- A link that isn't followed. -/
theorem ring_self (h : Ring n row d) (hn : n ≤ 60) (h1 : 1 ≤ n) (hin : intoErr d 1 = 0) : findR d up false 41 1 (nmL 0) 0 = (⟨2, 1, nmL 0⟩, 0) := by
  have P := plain_nm (show 0 < 60 by omega)
  rw [find_name hin P.err P.parts P.slash P.abs P.dot P.dots P.size (h.at' 0 (by omega)) (by omega), if_neg (by simp)]
  rfl

/-- A ring leads nowhere. -/
theorem ring_loop (h : Ring n false d) (hn : n ≤ 60) (h1 : 1 ≤ n) (hin : intoErr d 1 = 0) : ∀ (j m : Nat), m + j = 40 → findR d up true (j + 1) 1 (nmL (m % n)) m = (.no, 17) := by
  intro j
  induction j with
  | zero =>
    intro m hm
    rw [ring_step h hn hin (Nat.mod_lt _ h1), if_pos (by omega)]
  | succ j ih =>
    intro m hm
    rw [ring_step h hn hin (Nat.mod_lt _ h1), if_neg (by omega)]
    have e : toL n false (m % n) = nmL ((m + 1) % n) := by
      unfold toL
      rw [if_neg (by simp), Nat.mod_add_mod]
    rw [e]
    exact ih (m + 1) (by omega)

/-- Along a row. -/
theorem row_go (h : Ring n true d) (hn : n ≤ 60) (h1 : 1 ≤ n) (hin : intoErr d 1 = 0) : ∀ (j m : Nat), m + j = 40 → m < n → findR d up true (j + 1) 1 (nmL m) m = if n ≤ 40 then (⟨((2 + n : Nat) : Int), 1, endB⟩, 0) else (.no, 17) := by
  intro j
  induction j with
  | zero =>
    intro m hm hmn
    rw [ring_step h hn hin hmn, if_pos (by omega), if_neg (by omega)]
  | succ j ih =>
    intro m hm hmn
    rw [ring_step h hn hin hmn, if_neg (by omega)]
    unfold toL
    by_cases he : m + 1 = n
    · rw [if_pos ⟨rfl, he⟩]
      have P := plain_end
      rw [find_name hin P.err P.parts P.slash P.abs P.dot P.dots P.size h.atEnd (by omega), h.file, if_neg (by simp), if_pos (by omega)]
    · rw [if_neg (fun h => he h.2), Nat.mod_eq_of_lt (by omega)]
      exact ih (m + 1) (by omega) (by omega)

theorem ring_find (h : Ring n row d) (hn : n ≤ 60) (h1 : 1 ≤ n) (hin : intoErr d 1 = 0) : findR d up true 41 1 (nmL 0) 0 = if row = true ∧ n ≤ 40 then (⟨((2 + n : Nat) : Int), 1, endB⟩, 0) else (.no, 17) := by
  cases row with
  | false =>
    have := ring_loop (up := up) h hn h1 hin 40 0 rfl
    rw [Nat.zero_mod] at this
    rw [this]
    rfl
  | true =>
    rw [row_go h hn h1 hin 40 0 rfl (by omega)]
    by_cases hc : n ≤ 40
    · rw [if_pos hc, if_pos ⟨rfl, hc⟩]
    · rw [if_neg hc, if_neg (fun h => hc h.2)]
end

end Go.Proofs.YtbcejodnjeklpaaDoor
