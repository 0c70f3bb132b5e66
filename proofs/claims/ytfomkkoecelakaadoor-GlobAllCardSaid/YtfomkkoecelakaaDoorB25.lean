/-
  Layer 5, plain: the rings and rows of links, and the document's example. No program in sight.
-/
import Derived.Test.YtfomkkoecelakaaDoorB20
import Derived.Test.YtfomkkoecelakaaDoorB24
import Derived.Test.YtfomkkoecelakaaDoorB23

set_option linter.unusedSimpArgs false
set_option linter.unusedVariables false

set_option maxRecDepth 100000
namespace Go.Proofs.YtfomkkoecelakaaDoor

theorem absB_head (s : ByteArray) (h : 1 ≤ s.size) : absB s = decide (s[0] = 47) := by
  unfold absB
  rw [List.getElem?_eq_getElem (by rw [len_data]; omega), Bool.eq_iff_iff, decide_eq_true_eq, decide_eq_true_eq]
  exact ⟨fun h => Option.some.inj h, fun e => congrArg some e⟩

theorem into_dir {d : Nds} {i : Int} (h : intoErr d i = 0) : folderErr d i = 0 := by
  unfold intoErr at h
  exact Classical.byContradiction fun hf => by rw [if_pos hf] at h; exact hf h

theorem dataOf_link {d : Nds} {i : Int} (h : (nd d i).kind = 3) : dataOf d i = (nd d i).data := by
  unfold dataOf
  rw [if_neg (by rw [h]; decide), if_neg (by rw [h]; decide)]

section
variable {d : Nds} {up : Int → Int} {at' : Int} {x : ByteArray} {n : Nat}

theorem step_look (hin : intoErr d at' = 0) (h1 : ¬ x = dotB) (h2 : ¬ x = dotsB) (h3 : x.size ≤ 255) {fl : Bool} {k : Int} (hg : entGet (nd d at').ents x = some k) :
    stepR d up at' x fl n = if fl = false then ⟨⟨k, at', x⟩, ⟨#[]⟩, 0, n⟩ else if (nd d k).kind ≠ 3 then ⟨⟨k, at', x⟩, ⟨#[]⟩, 0, n⟩ else if 40 < n + 1 then ⟨.no, ⟨#[]⟩, 17, n + 1⟩ else ⟨⟨k, at', x⟩, dataOf d k, 0, n + 1⟩ := by
  have hf := into_dir hin
  have hl : lookErr d at' x = 0 := by unfold lookErr; rw [if_neg (by rw [hf]; simp), hg]; rfl
  have ho : lookOf d at' x = k := by unfold lookOf; rw [if_neg (by rw [hf]; simp), hg]; rfl
  unfold stepR
  rw [if_neg (by rw [hin]; simp), if_neg h1, if_neg h2, if_neg (by omega), hl, ho]
  cases fl
  · simp
  · rw [if_neg (by simp)]
    simp

theorem step_none (hin : intoErr d at' = 0) (h1 : ¬ x = dotB) (h2 : ¬ x = dotsB) (h3 : x.size ≤ 255) {fl : Bool} (hg : entGet (nd d at').ents x = none) :
    stepR d up at' x fl n = ⟨⟨0, at', x⟩, ⟨#[]⟩, 0, n⟩ := by
  have hf := into_dir hin
  have hl : lookErr d at' x ≠ 0 := by unfold lookErr; rw [if_neg (by rw [hf]; simp), hg]; simp
  have ho : lookOf d at' x = 0 := by unfold lookOf; rw [if_neg (by rw [hf]; simp), hg]; rfl
  unfold stepR
  rw [if_neg (by rw [hin]; simp), if_neg h1, if_neg h2, if_neg (by omega), if_pos (.inl hl), ho]

theorem scan_one {slash follow : Bool} {q : StepR} {p : Plc} (hs : stepR d up at' x (slash || follow) n = q) :
    scan d up slash follow [x] at' n p = if q.e ≠ 0 then .err q.e else if q.t ≠ ⟨#[]⟩ then .again at' (restB q.t [] slash) q.n else .fin q.p := by
  unfold scan
  simp only [List.isEmpty_nil, Bool.not_true, Bool.false_or, hs]
  by_cases h1 : q.e ≠ 0
  · rw [if_pos h1, if_pos h1]
  rw [if_neg h1, if_neg h1]
  by_cases h2 : q.t ≠ ⟨#[]⟩
  · rw [if_pos h2, if_pos h2]
  rw [if_neg h2, if_neg h2, if_neg (fun h => h.2 rfl)]
  rfl

/-- One name alone. -/
theorem find_name {follow : Bool} {fuel : Nat} (hin : intoErr d 1 = 0) (hp : pathErr x = 0) (hl : prts x = [x]) (hs : endS x = false) (ha : absB x = false) (h1 : ¬ x = dotB) (h2 : ¬ x = dotsB) (h3 : x.size ≤ 255) {k : Int} (hg : entGet (nd d 1).ents x = some k) (_hk : k ≠ 0) :
    findR d up follow (fuel + 1) 1 x n = if follow = true ∧ (nd d k).kind = 3 then (if 40 < n + 1 then (.no, 17) else if (nd d k).data = ⟨#[]⟩ then (⟨k, 1, x⟩, 0) else findR d up follow fuel 1 (nd d k).data (n + 1)) else (⟨k, 1, x⟩, 0) := by
  rw [findR, if_neg (by rw [hp]; simp), hl, if_neg (by simp), hs, ha]
  simp only [Bool.false_eq_true, if_false]
  have hst := step_look (up := up) (n := n) (fl := follow) hin h1 h2 h3 hg
  by_cases hf : follow = false
  · subst hf
    rw [if_pos rfl] at hst
    rw [scan_one (slash := false) (follow := false) hst, if_neg (by simp)]
    simp [endR]
  · have hf : follow = true := by simpa using hf
    subst hf
    rw [if_neg (by simp)] at hst
    by_cases hk3 : (nd d k).kind = 3
    · rw [if_neg (by simp [hk3])] at hst
      rw [if_pos ⟨rfl, hk3⟩]
      by_cases h4 : 40 < n + 1
      · rw [if_pos h4] at hst
        rw [scan_one (slash := false) (follow := true) hst, if_pos h4]
        simp
      · rw [if_neg h4, dataOf_link hk3] at hst
        rw [scan_one (slash := false) (follow := true) hst, if_neg h4]
        by_cases he : (nd d k).data = ⟨#[]⟩
        · simp [he, endR]
        · simp [he, restB]
    · rw [if_pos hk3] at hst
      rw [scan_one (slash := false) (follow := true) hst]
      simp [endR, hk3]

end

-- the document's example
def anc5 : List N5 := [⟨0, ⟨#[100]⟩, 2, 493, ⟨#[]⟩⟩, ⟨0, ⟨#[108]⟩, 3, 0, ⟨#[100, 47, 46, 46]⟩⟩]

theorem bAt_one (x : Int) : bAt [1] x = 1 := by
  unfold bAt
  rw [show (x % 18446744073709551616).toNat % [(1 : Int)].length = 0 from Nat.mod_one _]
  rfl

theorem anc5_nodes : (∀ j, nd (builtD anc5).1 j = if j = 3 then ⟨3, 0, 0, ⟨#[100, 47, 46, 46]⟩, []⟩ else if j = 1 then ⟨2, 493, 0, ⟨#[]⟩, [(⟨#[100]⟩, 2), (⟨#[108]⟩, 3)]⟩ else if j = 2 then ⟨2, 493, 0, ⟨#[]⟩, []⟩ else Nd.gone) := by
  have b0 := bi_new
  obtain ⟨g1, g2, g3⟩ := enter_go (n := ⟨0, ⟨#[100]⟩, 2, 493, ⟨#[]⟩⟩) b0 (bAt_one _) (by decide) (by decide) (by decide) (by decide) (by decide) (by decide) (by decide) (by decide) (by decide) (by decide) (by decide)
  obtain ⟨h1, h2, h3⟩ := bOne_ok b0.inv b0.clean b0.bt.holds (bAt_one _) g1 g2 g3
  have b1 := bi_one b0 ⟨0, ⟨#[100]⟩, 2, 493, ⟨#[]⟩⟩
  generalize hs : bOne (newD, [1]) ⟨0, ⟨#[100]⟩, 2, 493, ⟨#[]⟩⟩ = s at *
  obtain ⟨d, l⟩ := s
  simp only at h1 h2 h3
  rw [if_pos trivial] at h1
  have hl : d.length = 3 := h2
  have hn1 : nd d 1 = ⟨2, 493, 0, ⟨#[]⟩, [(⟨#[100]⟩, 2)]⟩ := by rw [h3]; rfl
  have hat : bAt l 0 = 1 := by rw [h1]; decide
  obtain ⟨g1, g2, g3⟩ := enter_go (n := ⟨0, ⟨#[108]⟩, 3, 0, ⟨#[100, 47, 46, 46]⟩⟩) b1 hat (by decide) (by decide) (by decide) (by decide) (by decide) (by decide) (by decide) (by unfold folderErr; rw [hn1]; decide) (by rw [hn1]; decide) (by decide) (by decide)
  obtain ⟨i1, i2, i3⟩ := bOne_ok b1.inv b1.clean b1.bt.holds hat g1 g2 g3
  have hb : builtD anc5 = bOne (d, l) ⟨0, ⟨#[108]⟩, 3, 0, ⟨#[100, 47, 46, 46]⟩⟩ := by rw [← hs]; rfl
  rw [hb]
  intro j
  rw [i3, hl]
  by_cases j3 : j = 3
  · subst j3; rfl
  rw [if_neg (by simpa using j3), if_neg j3]
  by_cases j1 : j = 1
  · subst j1
    rw [if_pos rfl, if_pos rfl, hn1]
    have e : entPut [((⟨#[100]⟩ : ByteArray), (2 : Int))] ⟨#[108]⟩ 3 = [(⟨#[100]⟩, 2), (⟨#[108]⟩, 3)] := by decide
    exact congrArg (Nd.mk 2 493 0 ⟨#[]⟩) e
  rw [if_neg j1, if_neg j1, h3]
  by_cases j2 : j = 2
  · subst j2; rfl
  · rw [if_neg (show ¬ j = ((newD.length : Nat) : Int) from j2), if_neg j1, if_neg j2, nd_new, if_neg j1]

theorem anc5_find {up : Int → Int} (h2 : up 2 = 1) : findR (builtD anc5).1 up true 41 1 ⟨#[108, 47, 120]⟩ 0 = (⟨0, 1, ⟨#[120]⟩⟩, 0) := by
  have hN := anc5_nodes
  generalize (builtD anc5).1 = d at *
  have n1 := hN 1
  rw [if_neg (by decide), if_pos rfl] at n1
  have n2 := hN 2
  rw [if_neg (by decide), if_neg (by decide), if_pos rfl] at n2
  have n3 := hN 3
  rw [if_pos rfl] at n3
  clear hN
  have i1 : intoErr d 1 = 0 := by unfold intoErr folderErr; rw [n1]; decide
  have i2 : intoErr d 2 = 0 := by unfold intoErr folderErr; rw [n2]; decide
  have e1 : ∀ n, stepR d up 1 ⟨#[108]⟩ true n = if 40 < n + 1 then ⟨.no, ⟨#[]⟩, 17, n + 1⟩ else ⟨⟨3, 1, ⟨#[108]⟩⟩, ⟨#[100, 47, 46, 46]⟩, 0, n + 1⟩ := fun n => by
    rw [step_look i1 (by decide) (by decide) (by decide) (k := 3) (by rw [n1]; decide), n3, dataOf_link (by rw [n3]), n3]
    simp
  have e2 : ∀ n, stepR d up 1 ⟨#[100]⟩ true n = ⟨⟨2, 1, ⟨#[100]⟩⟩, ⟨#[]⟩, 0, n⟩ := fun n => by
    rw [step_look i1 (by decide) (by decide) (by decide) (k := 2) (by rw [n1]; decide), n2]
    simp
  have e3 : ∀ n, stepR d up 2 dotsB true n = ⟨.on 1, ⟨#[]⟩, 0, n⟩ := fun n => by
    unfold stepR
    rw [if_neg (by rw [i2]; simp), if_neg (by decide), if_pos rfl, h2]
  have e4 : ∀ n, stepR d up 1 ⟨#[120]⟩ true n = ⟨⟨0, 1, ⟨#[120]⟩⟩, ⟨#[]⟩, 0, n⟩ := fun n => step_none i1 (by decide) (by decide) (by decide) (by rw [n1]; decide)
  rw [findR, show pathErr (⟨#[108, 47, 120]⟩ : ByteArray) = 0 by decide, show prts (⟨#[108, 47, 120]⟩ : ByteArray) = [⟨#[108]⟩, ⟨#[120]⟩] by decide, show endS (⟨#[108, 47, 120]⟩ : ByteArray) = false by decide, show absB (⟨#[108, 47, 120]⟩ : ByteArray) = false by decide]
  simp only [ne_eq, not_true_eq_false, if_false, reduceCtorEq, Bool.false_eq_true]
  unfold scan
  simp only [List.isEmpty_cons, Bool.not_false, Bool.true_or, e1]
  simp only [show ¬ (40 < 0 + 1) by decide, if_false, ne_eq, not_true_eq_false]
  rw [if_pos (by decide)]
  simp only
  rw [show restB ⟨#[100, 47, 46, 46]⟩ [⟨#[120]⟩] false = ⟨#[100, 47, 46, 46, 47, 120]⟩ by decide]
  rw [findR, show pathErr (⟨#[100, 47, 46, 46, 47, 120]⟩ : ByteArray) = 0 by decide, show prts (⟨#[100, 47, 46, 46, 47, 120]⟩ : ByteArray) = [⟨#[100]⟩, dotsB, ⟨#[120]⟩] by decide, show endS (⟨#[100, 47, 46, 46, 47, 120]⟩ : ByteArray) = false by decide, show absB (⟨#[100, 47, 46, 46, 47, 120]⟩ : ByteArray) = false by decide]
  simp only [ne_eq, not_true_eq_false, if_false, reduceCtorEq, Bool.false_eq_true]
  unfold scan
  simp only [List.isEmpty_cons, Bool.not_false, Bool.true_or, e2, ne_eq, not_true_eq_false, if_false, reduceCtorEq, not_false_eq_true, and_true]
  rw [if_neg (by decide)]
  unfold scan
  simp only [List.isEmpty_cons, Bool.not_false, Bool.true_or, e3, Plc.on, ne_eq, not_true_eq_false, if_false, reduceCtorEq, not_false_eq_true, and_true]
  rw [if_neg (by decide)]
  unfold scan
  simp only [List.isEmpty_nil, Bool.not_true, Bool.false_or, e4, ne_eq, not_true_eq_false, if_false, and_false]
  unfold scan endR
  simp

end Go.Proofs.YtfomkkoecelakaaDoor
