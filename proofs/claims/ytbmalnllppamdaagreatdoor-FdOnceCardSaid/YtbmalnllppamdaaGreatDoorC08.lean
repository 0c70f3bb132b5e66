/-
  Layer 6, plain: paths on a disk whose root holds files alone. No program in sight.
-/
import Derived.Test.YtbmalnllppamdaaGreatDoorB25
import Derived.Test.YtbmalnllppamdaaGreatDoorC01
import Derived.Test.YtbmalnllppamdaaGreatDoorB10
import Derived.Test.YtbmalnllppamdaaGreatDoorB12

set_option linter.unusedSimpArgs false
set_option linter.unusedVariables false

set_option maxRecDepth 100000
namespace Go.Proofs.YtbmalnllppamdaaGreatDoor

/-- The root is the only directory, and holds files alone. -/
structure Flat (d : Nds) : Prop where
  into : intoErr d 1 = 0
  files : ∀ n k, entGet (nd d 1).ents n = some k → (nd d k).kind = 1 ∧ k ≠ 0

def Dot (x : ByteArray) : Prop := x = dotB ∨ x = dotsB
/-- What a name in the root is: none is 0. -/
def atRoot (d : Nds) (n : ByteArray) : Int := (entGet (nd d 1).ents n).getD 0

/-- A path that leads to a name in the root. -/
structure Lead (s n : ByteArray) : Prop where
  err : pathErr s = 0
  slash : endS s = false
  parts : ∃ ds, prts s = ds ++ [n] ∧ ∀ x ∈ ds, Dot x
  name : ¬ Dot n
  size : n.size ≤ 255

section
variable {d : Nds} {up : Int → Int} {slash follow : Bool}

theorem flat_step (h : Flat d) {x : ByteArray} {fl : Bool} {n : Nat} (hx : ¬ Dot x) (hz : x.size ≤ 255) : stepR d up 1 x fl n = ⟨⟨atRoot d x, 1, x⟩, ⟨#[]⟩, 0, n⟩ := by
  have h1 : ¬ x = dotB := fun e => hx (.inl e)
  have h2 : ¬ x = dotsB := fun e => hx (.inr e)
  unfold atRoot
  cases hg : entGet (nd d 1).ents x with
  | none => exact step_none h.into h1 h2 hz hg
  | some k =>
    rw [step_look h.into h1 h2 hz hg]
    have := (h.files x k hg).1
    cases fl
    · simp
    · simp [this]

theorem flat_dot (h : Flat d) (hu : up 1 = 1) {x : ByteArray} {fl : Bool} {n : Nat} (hx : Dot x) : stepR d up 1 x fl n = ⟨.on 1, ⟨#[]⟩, 0, n⟩ := by
  unfold stepR
  rw [if_neg (by rw [h.into]; simp)]
  rcases hx with rfl | rfl
  · rw [if_pos rfl]
  · rw [if_neg (by decide), if_pos rfl, hu]

/-- Dots ahead lead nowhere else. -/
theorem flat_dots (h : Flat d) (hu : up 1 = 1) : ∀ (ds l : List ByteArray) (n : Nat) (p : Plc), (∀ x ∈ ds, Dot x) → l ≠ [] → scan d up slash follow (ds ++ l) 1 n p = scan d up slash follow l 1 n p
  | [], _, _, _, _, _ => rfl
  | x :: r, l, n, p, hd, hl => by
    have hx := hd x List.mem_cons_self
    rw [List.cons_append, scan]
    simp only [flat_dot h hu hx]
    rw [if_neg (by simp), if_neg (by simp), if_neg (fun hh => by have := hh.1; simp [Plc.on] at this)]
    show scan d up slash follow (r ++ l) 1 n (.on 1) = _
    rw [flat_dots h hu r l n (.on 1) (fun y hy => hd y (List.mem_cons_of_mem _ hy)) hl]
    cases l with
    | nil => exact absurd rfl hl
    | cons y t => rfl

/-- A path that leads to a name finds it. -/
theorem find_lead (h : Flat d) (hu : up 1 = 1) {s n : ByteArray} (hs : Lead s n) (follow : Bool) (fuel : Nat) : findR d up follow (fuel + 1) 1 s 0 = (⟨atRoot d n, 1, n⟩, 0) := by
  obtain ⟨ds, hp, hd⟩ := hs.parts
  rw [findR, if_neg (by rw [hs.err]; simp), hp, if_neg (by simp), hs.slash]
  simp only [ite_self]
  rw [flat_dots h hu ds [n] 0 _ hd (by simp), scan_one (flat_step h hs.name hs.size), if_neg (by simp), if_neg (by simp)]
  simp [endR]

/-- What a way along parts comes to. -/
theorem flat_scan (h : Flat d) (hu : up 1 = 1) : ∀ (l : List ByteArray) (n : Nat) (p : Plc),
    (∃ e, e ≠ 0 ∧ scan d up slash follow l 1 n p = .err e) ∨ (∃ q, scan d up slash follow l 1 n p = .fin q ∧ ((l = [] ∧ q = p) ∨ (l ≠ [] ∧ q = .on 1) ∨ ∃ ds x, l = ds ++ [x] ∧ (∀ y ∈ ds, Dot y) ∧ ¬ Dot x ∧ x.size ≤ 255 ∧ q = ⟨atRoot d x, 1, x⟩))
  | [], n, p => .inr ⟨p, rfl, .inl ⟨rfl, rfl⟩⟩
  | x :: r, n, p => by
    rw [scan]
    by_cases hx : Dot x
    · simp only [flat_dot h hu hx]
      rw [if_neg (by simp), if_neg (by simp), if_neg (fun hh => by have := hh.1; simp [Plc.on] at this)]
      have ih := flat_scan h hu r n (.on 1)
      simp only [Plc.on] at ih ⊢
      rcases ih with ⟨e, he, h1⟩ | ⟨q, h1, h2⟩
      · exact .inl ⟨e, he, h1⟩
      · refine .inr ⟨q, h1, .inr ?_⟩
        rcases h2 with ⟨rfl, rfl⟩ | ⟨_, rfl⟩ | ⟨ds, y, rfl, hd, hy, hz, rfl⟩
        · exact .inl ⟨by simp, rfl⟩
        · exact .inl ⟨by simp, rfl⟩
        · exact .inr ⟨x :: ds, y, rfl, fun z hz => by rcases List.mem_cons.1 hz with rfl | h3; exact hx; exact hd z h3, hy, hz, rfl⟩
    · by_cases hz : x.size ≤ 255
      · simp only [flat_step h hx hz]
        rw [if_neg (by simp), if_neg (by simp)]
        by_cases hr : r = []
        · subst hr
          rw [if_neg (fun hh => hh.2 rfl)]
          exact .inr ⟨_, rfl, .inr (.inr ⟨[], x, rfl, fun _ hy => (by cases hy), hx, hz, rfl⟩)⟩
        · by_cases h0 : atRoot d x = 0
          · rw [if_pos ⟨h0, hr⟩]
            exact .inl ⟨12, by decide, rfl⟩
          · rw [if_neg (fun hh => h0 hh.1)]
            cases r with
            | nil => exact absurd rfl hr
            | cons y t =>
              have hk : (nd d (atRoot d x)).kind = 1 := by
                unfold atRoot at h0 ⊢
                cases hg : entGet (nd d 1).ents x with
                | none => rw [hg] at h0; exact absurd rfl h0
                | some k => exact (h.files x k hg).1
              have hi : intoErr d (atRoot d x) = 14 := by
                unfold intoErr folderErr
                rw [hk]
                simp
              have hst : ∀ fl, stepR d up (atRoot d x) y fl n = ⟨.no, ⟨#[]⟩, 14, n⟩ := fun fl => by
                unfold stepR
                rw [if_pos (by rw [hi]; decide), hi]
              rw [scan]
              simp only [hst]
              exact .inl ⟨14, by decide, rfl⟩
      · have hst : ∀ fl, stepR d up 1 x fl n = ⟨.no, ⟨#[]⟩, 18, n⟩ := fun fl => by
          unfold stepR
          rw [if_neg (by rw [h.into]; simp), if_neg (fun e => hx (.inl e)), if_neg (fun e => hx (.inr e)), if_pos (by omega)]
        simp only [hst]
        exact .inl ⟨18, by decide, rfl⟩

/-- What Find answers there: an error, the root, or a name. -/
theorem flat_find (h : Flat d) (hu : up 1 = 1) (s : ByteArray) (follow : Bool) (fuel : Nat) :
    (findR d up follow (fuel + 1) 1 s 0).2 ≠ 0 ∨ findR d up follow (fuel + 1) 1 s 0 = (.on 1, 0) ∨
      ∃ n, findR d up follow (fuel + 1) 1 s 0 = (⟨atRoot d n, 1, n⟩, 0) ∧ (endS s = true → atRoot d n = 0) ∧ (endS s = false → Lead s n) := by
  rw [findR]
  by_cases hp : pathErr s ≠ 0
  · rw [if_pos hp]; exact .inl hp
  have hp0 : pathErr s = 0 := Classical.not_not.1 hp
  rw [if_neg hp]
  simp only [ite_self]
  by_cases hl : prts s = []
  · rw [if_pos hl, h.into]
    exact .inr (.inl rfl)
  rw [if_neg hl]
  rcases flat_scan (slash := endS s) (follow := follow) h hu (prts s) 0 (.on 1) with ⟨e, he, h1⟩ | ⟨q, h1, h2⟩
  · rw [h1]; exact .inl he
  · rw [h1]
    simp only
    rcases h2 with ⟨h3, _⟩ | ⟨_, rfl⟩ | ⟨ds, x, hd, hy, hx, hz, rfl⟩
    · exact absurd h3 hl
    · unfold endR
      by_cases hs : endS s = false
      · rw [if_pos (.inl hs)]; exact .inr (.inl rfl)
      · have hk : (nd d 1).kind = 2 := (folderErr_zero (into_dir h.into)).2
        rw [if_neg (by intro hh; rcases hh with h | h; exact hs h; simp [Plc.on] at h), if_neg (by simp [Plc.on, hk])]
        exact .inr (.inl rfl)
    · unfold endR
      by_cases hs : endS s = false
      · rw [if_pos (.inl hs)]
        exact .inr (.inr ⟨x, rfl, fun e => (by rw [hs] at e; cases e), fun _ => ⟨hp0, hs, ⟨ds, hd, hy⟩, hx, hz⟩⟩)
      · by_cases h0 : atRoot d x = 0
        · rw [if_pos (.inr h0)]
          exact .inr (.inr ⟨x, rfl, fun _ => h0, fun e => absurd e hs⟩)
        · have hk : (nd d (atRoot d x)).kind = 1 := by
            unfold atRoot at h0 ⊢
            cases hg : entGet (nd d 1).ents x with
            | none => rw [hg] at h0; exact absurd rfl h0
            | some k => exact (h.files x k hg).1
          rw [if_neg (by intro hh; rcases hh with h | h; exact hs h; exact h0 h), if_pos (by show (nd d (atRoot d x)).kind ≠ 2; rw [hk]; decide)]
          exact .inl (by decide)
end
end Go.Proofs.YtbmalnllppamdaaGreatDoor

/-
  Layer 6, plain: a disk whose root holds names of one file, and nothing else. No program in sight.
-/
set_option maxRecDepth 100000
namespace Go.Proofs.YtbmalnllppamdaaGreatDoor

theorem nd_wipe (d : Nds) (i j : Int) : nd (upd d i Nd.gone) j = if j = i then Nd.gone else nd d j := by
  by_cases h : 0 ≤ i ∧ i.toNat < d.length
  · exact nd_upd h.1 h.2 _ _
  · have h1 := nd_gone h
    have h2 : ¬ (0 ≤ i ∧ i.toNat < (upd d i Nd.gone).length) := by rw [upd_length]; exact h
    have h3 : upd d i Nd.gone = d := by
      unfold upd
      split
      · next h0 => exact List.set_eq_of_length_le (by omega)
      · rfl
    rw [h3]
    split
    · next e => rw [e, h1]
    · rfl

theorem sumBy_wipe (f : Nd → Nat) (hf : f Nd.gone = 0) (d : Nds) (i : Int) : sumBy f (upd d i Nd.gone) + f (nd d i) = sumBy f d := by
  by_cases h : 0 ≤ i ∧ i.toNat < d.length
  · have := sumBy_upd f h.1 h.2 Nd.gone
    omega
  · have h3 : upd d i Nd.gone = d := by
      unfold upd
      split
      · next h0 => exact List.set_eq_of_length_le (by omega)
      · rfl
    rw [h3, nd_gone h, hf]
    rfl

theorem sumBy_none (f : Nd → Nat) (hf : f Nd.gone = 0) (d : Nds) (h : ∀ j, nd d j = Nd.gone) : sumBy f d = 0 := by
  rw [sumBy_zero]
  intro n hn
  obtain ⟨m, hm⟩ := List.mem_iff_getElem?.1 hn
  have := nd_nat hm
  rw [← this, h, hf]

theorem sumBy_two (f : Nd → Nat) (hf : f Nd.gone = 0) {d : Nds} {i k : Int} (hik : i ≠ k) (h : ∀ j, j ≠ i → j ≠ k → nd d j = Nd.gone) : sumBy f d = f (nd d i) + f (nd d k) := by
  have h1 := sumBy_wipe f hf d i
  have h2 := sumBy_wipe f hf (upd d i Nd.gone) k
  rw [nd_wipe, if_neg (fun e => hik e.symm)] at h2
  have h3 := sumBy_none f hf (upd (upd d i Nd.gone) k Nd.gone) (fun j => by
    rw [nd_wipe]
    split
    · rfl
    · next hk =>
      rw [nd_wipe]
      split
      · rfl
      · next hi => exact h j hi hk)
  omega

def rootOf (es : List Ent) : Nd := ⟨2, 493, 0, ⟨#[]⟩, es⟩
theorem rootOf_nil : rootOf [] = rootNd := rfl

/-- The root alone. -/
structure Zero (d : Nds) : Prop where
  root : nd d 1 = rootOf []
  rest : ∀ j, j ≠ 1 → nd d j = Nd.gone

/-- The root, and a file that has names there. -/
structure One (d : Nds) (k : Int) (es : List Ent) (mode holds : Int) (data : ByteArray) : Prop where
  root : nd d 1 = rootOf es
  file : nd d k = ⟨1, mode, holds, data, []⟩
  rest : ∀ j, j ≠ 1 → j ≠ k → nd d j = Nd.gone
  k1 : 1 < k
  kids : ∀ e ∈ es, e.2 = k
  holds0 : 0 ≤ holds

theorem zero_new : Zero newD := ⟨by rw [nd_new, if_pos rfl]; rfl, fun j hj => by rw [nd_new, if_neg hj]⟩

section
variable {d d' : Nds} {k : Int} {es : List Ent} {mode holds : Int} {data : ByteArray} {room : Int}

theorem Zero.flat (h : Zero d) : Flat d where
  into := by unfold intoErr folderErr; rw [h.root]; decide
  files n k hk := by rw [h.root] at hk; cases hk
theorem One.flat (h : One d k es mode holds data) : Flat d where
  into := by unfold intoErr folderErr; rw [h.root]; rfl
  files n j hj := by
    rw [h.root] at hj
    have := h.kids _ (entGet_mem hj)
    simp only at this
    subst this
    rw [h.file]
    have := h.k1
    exact ⟨rfl, by omega⟩

theorem Zero.count (h : Zero d) : count d = 1 := by
  have := sumBy_two here1 rfl (d := d) (i := 1) (k := 0) (by decide) (fun j h1 _ => h.rest j h1)
  rw [h.root, h.rest 0 (by decide)] at this
  exact this
theorem Zero.used (h : Zero d) : used d = 0 := by
  have := sumBy_two room1 rfl (d := d) (i := 1) (k := 0) (by decide) (fun j h1 _ => h.rest j h1)
  rw [h.root, h.rest 0 (by decide)] at this
  exact this
theorem One.count (h : One d k es mode holds data) : count d = 2 := by
  have hk := h.k1
  have := sumBy_two here1 rfl (d := d) (i := 1) (k := k) (by omega) h.rest
  rw [h.root, h.file] at this
  exact this
theorem One.used (h : One d k es mode holds data) : used d = entSize es + data.size := by
  have hk := h.k1
  have := sumBy_two room1 rfl (d := d) (i := 1) (k := k) (by omega) h.rest
  rw [h.root, h.file] at this
  unfold Go.Proofs.YtbmalnllppamdaaGreatDoor.used
  rw [this]
  simp [room1, rootOf, entSize]
  rfl
theorem One.links (h : One d k es mode holds data) : links d k = es.length := by
  have hk := h.k1
  have := sumBy_two (namesOf k) rfl (d := d) (i := 1) (k := k) (by omega) h.rest
  rw [h.root, h.file] at this
  unfold Go.Proofs.YtbmalnllppamdaaGreatDoor.links cnt
  rw [this, if_neg (by omega)]
  have e : es.countP (fun e => decide (e.2 = k)) = es.length := by
    rw [List.countP_eq_length]
    intro e he
    simp [h.kids e he]
  simp [namesOf, rootOf, e]

end
end Go.Proofs.YtbmalnllppamdaaGreatDoor

/-
  Layer 6, plain: what the calls of files do to a disk whose root holds names of one file. No program in sight.
-/
set_option maxRecDepth 100000
namespace Go.Proofs.YtbmalnllppamdaaGreatDoor

section
variable {d d' : Nds} {k : Int} {es : List Ent} {mode holds : Int} {data : ByteArray} {room : Int}

theorem upC_root (d : Nds) : upC d 1 = 1 := by unfold upC; rw [if_pos rfl]

/-- What Find answers on such a disk. -/
theorem flat_fnd (h : Flat d) (s : ByteArray) (follow : Bool) :
    (fndR d 1 s follow).2 ≠ 0 ∨ fndR d 1 s follow = (.on 1, 0) ∨ ∃ n, fndR d 1 s follow = (⟨atRoot d n, 1, n⟩, 0) ∧ (endS s = true → atRoot d n = 0) ∧ (endS s = false → Lead s n) :=
  flat_find h (upC_root d) s follow 40
theorem lead_fnd (h : Flat d) {s n : ByteArray} (hs : Lead s n) (follow : Bool) : fndR d 1 s follow = (⟨atRoot d n, 1, n⟩, 0) := find_lead h (upC_root d) hs follow 40

theorem may_root (h : nd d 1 = rootOf es) : mayE d 1 128 = 0 := by
  unfold mayE
  rw [h]
  rw [if_neg (by unfold has; rw [h]; simp [rootOf]), if_neg (by simp [rootOf])]

theorem clean_one (h : nd d 1 = rootOf es) (hr : ∀ j, j ≠ 1 → nd d j = Nd.gone) : NoGarb d := fun i hg => by
  by_cases h1 : i = 1
  · subst h1; exact DInv.not_garb_root hg
  · have := hg.1
    unfold has at this
    rw [hr i h1] at this
    exact this rfl

/-- A file that is made, held, and named nowhere, goes as it is let go. -/
theorem zero_back (h : Zero d) (hI : DInv d) (kind m : Int) (s : ByteArray) (hk : kind ≠ 0) : Zero (relD (d ++ [newNd kind m s]) d.length) := by
  have hl := hI.two
  have hn : ∀ j, nd (d ++ [newNd kind m s]) j = if j = d.length then newNd kind m s else nd d j := fun j => nd_append d _ j
  have hh : has (d ++ [newNd kind m s]) d.length := by unfold has; rw [hn, if_pos rfl]; exact hk
  have hre : relErr (d ++ [newNd kind m s]) d.length = 0 := relErr_ok hh (by rw [hn, if_pos rfl]; exact (by decide : (1 : Int) ≠ 0))
  unfold relD
  rw [if_pos hre]
  have hr : ∀ j, nd (relTo (d ++ [newNd kind m s]) d.length) j = if j = d.length then ⟨kind, m, 0, s, []⟩ else nd d j := fun j => by
    rw [nd_relTo hh, hn, if_pos rfl, hn]
    split
    · rfl
    · rfl
  have hg : Garb (relTo (d ++ [newNd kind m s]) d.length) d.length := by
    refine ⟨by unfold has; rw [hr, if_pos rfl]; exact hk, ?_, by rw [hr, if_pos rfl]⟩
    have h1 : cnt (relTo (d ++ [newNd kind m s]) d.length) d.length = 0 := by
      refine Nat.eq_zero_of_not_pos fun hp => ?_
      obtain ⟨j, e, he, _⟩ := cnt_pos.1 hp
      rw [hr] at he
      split at he
      · cases he
      · by_cases hj : j = 1
        · rw [hj, h.root] at he; cases he
        · rw [h.rest j hj] at he; cases he
    unfold links
    rw [h1, if_neg (by omega)]
  have hkn : ∀ j, nd (kill (relTo (d ++ [newNd kind m s]) d.length) d.length) j = nd d j := fun j => by
    rw [nd_kill hg.1, hr]
    split
    · next e => rw [e, h.rest _ (by omega)]
    · rfl
  have hz : Zero (kill (relTo (d ++ [newNd kind m s]) d.length) d.length) := ⟨by rw [hkn]; exact h.root, fun j hj => by rw [hkn]; exact h.rest j hj⟩
  rw [gc_eq (Kills.one hg) (clean_one hz.root hz.rest)]
  exact hz

/-- A file is made. -/
theorem zero_fresh (h : Zero d) (hI : DInv d) (hr : 0 ≤ room) (s n : ByteArray) (mask flags m : Int) (hm : okMode (freshM m mask) = true) :
    ((freshR d room mask ⟨0, 1, n⟩ s flags m).2.2 ≠ 0 ∧ (freshR d room mask ⟨0, 1, n⟩ s flags m).2.1 = 0 ∧ Zero (freshR d room mask ⟨0, 1, n⟩ s flags m).1) ∨
      ((freshR d room mask ⟨0, 1, n⟩ s flags m).2 = ((d.length : Int), 0) ∧ endS s = false ∧ One (freshR d room mask ⟨0, 1, n⟩ s flags m).1 d.length [(n, (d.length : Int))] (freshM m mask) 1 ⟨#[]⟩) := by
  have hl := hI.two
  unfold freshR
  split
  · exact .inl ⟨by simp, rfl, h⟩
  split
  · exact .inl ⟨by simp, rfl, h⟩
  next hs =>
  rw [if_neg (by rw [may_root h.root]; simp)]
  have hme : makeErr d room 1 (freshM m mask) ⟨#[]⟩ = 0 := by
    unfold makeErr
    rw [if_neg (by decide), if_neg (by decide), if_neg (by decide), if_neg (by rw [hm]; decide), if_neg (by decide), if_neg (by rw [h.count]; decide), if_neg]
    rw [h.used]
    show ¬ room - 0 < 0
    omega
  rw [if_neg (by rw [hme]; simp)]
  have hn : ∀ j, nd (d ++ [newNd 1 (freshM m mask) ⟨#[]⟩]) j = if j = d.length then newNd 1 (freshM m mask) ⟨#[]⟩ else nd d j := fun j => nd_append d _ j
  split
  · next he =>
    refine .inl ⟨he, rfl, ?_⟩
    have : enterD (d ++ [newNd 1 (freshM m mask) ⟨#[]⟩]) room 1 n d.length = d ++ [newNd 1 (freshM m mask) ⟨#[]⟩] := by unfold enterD; rw [if_neg he]
    simp only
    rw [this]
    exact zero_back h hI 1 _ _ (by decide)
  · next he =>
    refine .inr ⟨rfl, by simpa using hs, ?_⟩
    have he := Classical.not_not.1 he
    have hd : enterD (d ++ [newNd 1 (freshM m mask) ⟨#[]⟩]) room 1 n d.length = setE (d ++ [newNd 1 (freshM m mask) ⟨#[]⟩]) 1 (entPut (nd (d ++ [newNd 1 (freshM m mask) ⟨#[]⟩]) 1).ents n d.length) := by unfold enterD; rw [if_pos he]; rfl
    have h1 : nd (d ++ [newNd 1 (freshM m mask) ⟨#[]⟩]) 1 = rootOf [] := by rw [hn, if_neg (by omega), h.root]
    have hh1 : has (d ++ [newNd 1 (freshM m mask) ⟨#[]⟩]) 1 := by unfold has; rw [h1]; decide
    simp only
    rw [hd, h1]
    refine ⟨?_, ?_, fun j j1 jk => ?_, by omega, fun e he => ?_, by decide⟩
    · rw [nd_setE hh1, if_pos rfl, h1]; rfl
    · rw [nd_setE hh1, if_neg (by omega), hn, if_pos rfl]; rfl
    · rw [nd_setE hh1, if_neg j1, hn, if_neg jk, h.rest j j1]
    · rw [show [(n, (d.length : Int))] = entPut [] n d.length from rfl, mem_entPut rfl] at he
      rcases he with he | he
      · cases he
      · rw [he]

/-- Opening where nothing is. -/
theorem zero_open (h : Zero d) (hI : DInv d) (hr : 0 ≤ room) (s : ByteArray) (mask flags m : Int) (hm : okMode (freshM m mask) = true) (hal : aloneF flags = false) :
    ((openR d room 1 mask s flags m).2.2 ≠ 0 ∧ (openR d room 1 mask s flags m).2.1 = 0 ∧ Zero (openR d room 1 mask s flags m).1) ∨
      ∃ n, (openR d room 1 mask s flags m).2 = ((d.length : Int), 0) ∧ Lead s n ∧ One (openR d room 1 mask s flags m).1 d.length [(n, (d.length : Int))] (freshM m mask) 1 ⟨#[]⟩ := by
  unfold openR
  rcases flat_fnd h.flat s (!aloneF flags) with he | he | ⟨n, he, h1, h2⟩
  · rw [if_pos he]; exact .inl ⟨he, rfl, h⟩
  · rw [he, if_neg (by simp), if_neg (by simp [Plc.on]), if_neg (by rw [hal]; decide)]
    have ht : thereErr d 1 flags = 15 := by unfold thereErr; rw [h.root, if_pos (by rfl)]
    simp only [Plc.on]
    unfold openedR
    rw [if_pos (by rw [ht]; decide), ht]
    exact .inl ⟨by simp, rfl, h⟩
  · have h0 : atRoot d n = 0 := by unfold atRoot; rw [h.root]; rfl
    rw [he, if_neg (by simp), if_pos (by rw [h0]), h0]
    rcases zero_fresh h hI hr s n mask flags m hm with h3 | ⟨h3, h4, h5⟩
    · exact .inl h3
    · exact .inr ⟨n, h3, h2 h4, h5⟩

/-- One more name of the file. -/
theorem one_link (h : One d k es mode holds data) {old n0 : ByteArray} (ho : Lead old n0) (hg : entGet es n0 = some k) (s : ByteArray) :
    ((linkR d room 1 old s).2 ≠ 0 ∧ (linkR d room 1 old s).1 = d) ∨ ∃ n, (linkR d room 1 old s).2 = 0 ∧ Lead s n ∧ entHas es n = false ∧ One (linkR d room 1 old s).1 k (entPut es n k) mode holds data := by
  have hk := h.k1
  have ha : atRoot d n0 = k := by unfold atRoot; rw [h.root]; show (entGet es n0).getD 0 = k; rw [hg]; rfl
  have hf := lead_fnd h.flat ho false
  rw [ha] at hf
  have ht : thrR d 1 old false = (⟨k, 1, n0⟩, 0) := by
    unfold thrR thereR
    rw [hf, if_neg (by simp), if_neg (by simp only; omega)]
  unfold linkR
  rw [ht, if_neg (by simp), if_neg (by rw [h.file]; exact (by decide : ¬ (1 : Int) = 2))]
  have hfree : (freeR d 1 s false).2 ≠ 0 ∨ ∃ n, freeR d 1 s false = (⟨0, 1, n⟩, 0) ∧ Lead s n ∧ entGet es n = none := by
    unfold freeR
    rcases flat_fnd h.flat s false with he | he | ⟨n, he, h1, h2⟩
    · rw [if_pos he]; exact .inl he
    · rw [he, if_neg (by simp), if_pos (by simp [Plc.on])]; exact .inl (by decide)
    · rw [he, if_neg (by simp)]
      by_cases h0 : atRoot d n = 0
      · rw [if_neg (by simp only; rw [h0]; simp)]
        by_cases hs : endS s = true
        · rw [if_pos ⟨rfl, hs⟩]; exact .inl (by decide)
        · rw [if_neg (fun x => hs x.2)]
          right
          refine ⟨n, ?_, h2 (by simpa using hs), ?_⟩
          · rw [h0]; simp only; rw [may_root h.root]
          · unfold atRoot at h0
            rw [h.root] at h0
            cases hg : entGet es n with
            | none => rfl
            | some j =>
              have h3 : (entGet es n).getD 0 = 0 := h0
              rw [hg] at h3
              have := h.kids _ (entGet_mem hg)
              simp only [Option.getD_some] at h3
              simp only at this
              omega
      · rw [if_pos (by simp only; exact h0)]; exact .inl (by decide)
  rcases hfree with he | ⟨n, he, h1, h2⟩
  · rw [if_pos he]; exact .inl ⟨he, rfl⟩
  · rw [he, if_neg (by simp)]
    simp only
    by_cases hE : enterErr d room 1 n k = 0
    · right
      have hh : has d 1 := by unfold has; rw [h.root]; exact (by decide : (2 : Int) ≠ 0)
      have hno : entHas es n = false := by rw [← entGet_isSome, h2]; rfl
      have hd : enterD d room 1 n k = setE d 1 (entPut es n k) := by unfold enterD; rw [if_pos hE]; unfold enterTo; rw [h.root]; rfl
      refine ⟨n, hE, h1, hno, ?_⟩
      rw [hd]
      refine ⟨?_, ?_, fun j j1 jk => ?_, hk, fun e he => ?_, h.holds0⟩
      · rw [nd_setE hh, if_pos rfl, h.root]; rfl
      · rw [nd_setE hh, if_neg (by omega), h.file]
      · rw [nd_setE hh, if_neg j1, h.rest j j1 jk]
      · rw [mem_entPut hno] at he
        rcases he with he | he
        · exact h.kids e he
        · rw [he]
    · left
      refine ⟨hE, ?_⟩
      unfold enterD
      rw [if_neg hE]

/-- The file is opened at one of its names. -/
theorem one_open (h : One d k es mode holds data) {s n : ByteArray} (hs : Lead s n) (hg : entGet es n = some k) (mask flags m : Int) (hal : aloneF flags = false) (he : flg flags 8 = false)
    (ht : (flg flags 1 = true ∧ mode / 256 % 2 = 0) ∨ (flg flags 10 = true ∧ mode / 128 % 2 = 0) → False) :
    (openR d room 1 mask s flags m).2 = (k, 0) ∧ One (openR d room 1 mask s flags m).1 k es mode (holds + 1) data := by
  have hk := h.k1
  have ha : atRoot d n = k := by unfold atRoot; rw [h.root]; show (entGet es n).getD 0 = k; rw [hg]; rfl
  have hf := lead_fnd h.flat hs (!aloneF flags)
  rw [ha] at hf
  have hh : has d k := by unfold has; rw [h.file]; simp
  have hr := has_range hh
  have hte : thereErr d k flags = 0 := by
    unfold thereErr
    rw [h.file, if_neg (by simp), if_neg (by simp), if_neg ht]
  have hd : holdD d k = upd d k ⟨1, mode, holds + 1, data, []⟩ := by unfold holdD; rw [if_pos hh]; unfold holdTo; rw [h.file]; rfl
  unfold openR
  rw [hf, if_neg (by simp), if_neg (by simp only; omega), if_neg (by rw [hal]; decide)]
  simp only
  unfold openedR
  rw [if_neg (by rw [hte]; simp), he]
  simp only [Bool.false_eq_true, if_false]
  refine ⟨by unfold hldErr; rw [if_pos hh], ?_⟩
  rw [hd]
  have h0 := h.holds0
  refine ⟨?_, ?_, fun j j1 jk => ?_, hk, h.kids, by omega⟩
  · rw [nd_upd hr.1 hr.2, if_neg (by omega), h.root]
  · rw [nd_upd hr.1 hr.2, if_pos rfl]
  · rw [nd_upd hr.1 hr.2, if_neg jk, h.rest j j1 jk]

/-- It is let go, but stays. -/
theorem one_rel (h : One d k es mode holds data) (hh : 1 ≤ holds) (hst : es ≠ [] ∨ 2 ≤ holds) : relErr d k = 0 ∧ One (relD d k) k es mode (holds - 1) data := by
  have hk := h.k1
  have hhas : has d k := by unfold has; rw [h.file]; simp
  have hre : relErr d k = 0 := relErr_ok hhas (by rw [h.file]; simp only; omega)
  have hrn : ∀ j, nd (relTo d k) j = if j = k then ⟨1, mode, holds - 1, data, []⟩ else nd d j := fun j => by
    rw [nd_relTo hhas, h.file]; rfl
  have h1 : One (relTo d k) k es mode (holds - 1) data := by
    refine ⟨?_, ?_, fun j j1 jk => ?_, hk, h.kids, by omega⟩
    · rw [hrn, if_neg (by omega), h.root]
    · rw [hrn, if_pos rfl]
    · rw [hrn, if_neg jk, h.rest j j1 jk]
  refine ⟨hre, ?_⟩
  unfold relD
  rw [if_pos hre, gc_same]
  · exact h1
  · intro i hg
    by_cases i1 : i = 1
    · subst i1; exact DInv.not_garb_root hg
    by_cases ik : i = k
    · subst ik
      have g2 := hg.2.1
      have g3 := hg.2.2
      rw [h1.links] at g2
      rw [h1.file] at g3
      simp only at g3
      rcases hst with h2 | h2
      · exact h2 (List.eq_nil_of_length_eq_zero g2)
      · omega
    · have := hg.1
      unfold has at this
      rw [h1.rest i i1 ik] at this
      exact this rfl

/-- A name goes; with the last one of a file that nobody holds the file goes, too. -/
theorem one_rem (h : One d k es mode 0 data) (hI : DInv d) {s n : ByteArray} (hs : Lead s n) (hn : n ≠ ⟨#[]⟩) (hg : entGet es n = some k) :
    (remR d 1 s false).2 = 0 ∧ (entDel es n ≠ [] → One (remR d 1 s false).1 k (entDel es n) mode 0 data) ∧ (entDel es n = [] → Zero (remR d 1 s false).1) := by
  have hk := h.k1
  have ha : atRoot d n = k := by unfold atRoot; rw [h.root]; show (entGet es n).getD 0 = k; rw [hg]; rfl
  have hf := lead_fnd h.flat hs false
  rw [ha] at hf
  have ht : thrR d 1 s false = (⟨k, 1, n⟩, 0) := by
    unfold thrR thereR
    rw [hf, if_neg (by simp), if_neg (by simp only; omega)]
  have hgo : goneR d 1 s false = (⟨k, 1, n⟩, 0) := by
    unfold goneR
    rw [ht, if_neg (by simp), if_neg (by simp), if_neg (by rw [h.file]; simp), if_neg (by simpa using hn)]
    simp only
    rw [may_root h.root]
  have hh : has d 1 := by unfold has; rw [h.root]; exact (by decide : (2 : Int) ≠ 0)
  have hlk : lookOf d 1 n = k ∧ lookErr d 1 n = 0 := by
    have hfe : folderErr d 1 = 0 := by unfold folderErr; rw [h.root]; rfl
    have he : (nd d 1).ents = es := by rw [h.root]; rfl
    unfold lookOf lookErr
    rw [if_neg (by rw [hfe]; simp), if_neg (by rw [hfe]; simp), he, hg]
    exact ⟨rfl, rfl⟩
  have hle : leaveErr d 1 n = 0 := by
    unfold leaveErr
    rw [hlk.2, if_neg (by simp), hlk.1, h.file, if_neg (by simp)]
  have hdr : dropTo d 1 n = setE d 1 (entDel es n) := by unfold dropTo; rw [h.root]; rfl
  have hn2 : ∀ j, nd (dropTo d 1 n) j = if j = 1 then rootOf (entDel es n) else nd d j := fun j => by
    rw [hdr, nd_setE hh, h.root]; rfl
  have h1 : One (dropTo d 1 n) k (entDel es n) mode 0 data := by
    refine ⟨by rw [hn2, if_pos rfl], by rw [hn2, if_neg (by omega), h.file], fun j j1 jk => by rw [hn2, if_neg j1, h.rest j j1 jk], hk, fun e he => h.kids e (mem_entDel.1 he).1, by decide⟩
  unfold remR
  rw [hgo, if_neg (by simp)]
  simp only
  refine ⟨hle, fun hne => ?_, fun he => ?_⟩
  · unfold leaveTo
    rw [if_pos hle, gc_same]
    · exact h1
    · intro i hgb
      by_cases i1 : i = 1
      · subst i1; exact DInv.not_garb_root hgb
      by_cases ik : i = k
      · subst ik
        have g2 := hgb.2.1
        rw [h1.links] at g2
        exact hne (List.eq_nil_of_length_eq_zero g2)
      · have := hgb.1
        unfold has at this
        rw [h1.rest i i1 ik] at this
        exact this rfl
  · unfold leaveTo
    rw [if_pos hle]
    have hgb : Garb (dropTo d 1 n) k := ⟨by unfold has; rw [h1.file]; simp, by rw [h1.links, he]; rfl, by rw [h1.file]⟩
    have hz : Zero (kill (dropTo d 1 n) k) := by
      refine ⟨?_, fun j j1 => ?_⟩
      · rw [nd_kill hgb.1, if_neg (by omega), hn2, if_pos rfl, he]
      · rw [nd_kill hgb.1]
        split
        · rfl
        · next jk => rw [hn2, if_neg j1, h.rest j j1 jk]
    rw [gc_eq (Kills.one hgb) (clean_one hz.root hz.rest)]
    exact hz
end
end Go.Proofs.YtbmalnllppamdaaGreatDoor

/-
  The plain law of FilesLinks: names of one file. No program in sight.
-/
set_option maxRecDepth 100000
namespace Go.Proofs.YtbmalnllppamdaaGreatDoor

theorem Lead.ne {s n : ByteArray} (h : Lead s n) : n ≠ ⟨#[]⟩ := by
  obtain ⟨ds, hp, _⟩ := h.parts
  have hm : n ∈ prts s := by rw [hp]; simp
  unfold prts at hm
  have := (List.mem_filter.1 hm).2
  simpa using this

/-- The names of one file, by the paths that lead to them. -/
structure Nms (l ns : List ByteArray) : Prop where
  len : ns.length = l.length
  lead : ∀ (i : Nat) s n, l[i]? = some s → ns[i]? = some n → Lead s n
  nodup : ns.Nodup

def K1 (d : Nds) (l : List ByteArray) : Prop :=
  (l = [] ∧ Zero d) ∨ (l ≠ [] ∧ ∃ id es ns, One d id es 384 0 ⟨#[]⟩ ∧ Nms l ns ∧ es.length = ns.length ∧ ∀ n ∈ ns, entGet es n = some id)

theorem fresh384 : freshM 384 0 = 384 := by decide

theorem One.rising {d : Nds} {k : Int} {es : List Ent} {mode holds : Int} {data : ByteArray} (h : One d k es mode holds data) (hI : DInv d) : Rising es := by
  have := (hI.node 1).rising
  rw [h.root] at this
  exact this

theorem k1_open {d : Nds} (h : Zero d) (hI : DInv d) (s : ByteArray) :
    ((openR d 65536 1 0 s 6 384).2.2 ≠ 0 ∧ K1 (openR d 65536 1 0 s 6 384).1 []) ∨
      ((openR d 65536 1 0 s 6 384).2.2 = 0 ∧ K1 (relD (openR d 65536 1 0 s 6 384).1 (openR d 65536 1 0 s 6 384).2.1) [s]) := by
  rcases zero_open h hI (by decide : (0 : Int) ≤ 65536) s 0 6 384 (by decide) (by decide) with ⟨h1, _, h2⟩ | ⟨n, h1, h2, h3⟩
  · exact .inl ⟨h1, .inl ⟨rfl, h2⟩⟩
  · right
    rw [fresh384] at h3
    obtain ⟨_, h4⟩ := one_rel h3 (by decide) (.inl (by simp))
    rw [h1]
    refine ⟨rfl, .inr ⟨by simp, _, _, [n], h4, ⟨rfl, fun i x y hx hy => ?_, by simp⟩, rfl, fun m hm => ?_⟩⟩
    · cases i with
      | zero => simp only [List.getElem?_cons_zero, Option.some.injEq] at hx hy; subst hx; subst hy; exact h2
      | succ i => simp at hx
    · simp only [List.mem_singleton] at hm
      subst hm
      simp [entGet]

theorem k1_link {d : Nds} {l : List ByteArray} (h : K1 d l) (hI : DInv d) {s0 : ByteArray} (h0 : l[0]? = some s0) (s : ByteArray) :
    ((linkR d 65536 1 s0 s).2 ≠ 0 ∧ K1 (linkR d 65536 1 s0 s).1 l) ∨ ((linkR d 65536 1 s0 s).2 = 0 ∧ K1 (linkR d 65536 1 s0 s).1 (l ++ [s])) := by
  rcases h with ⟨rfl, _⟩ | ⟨hl, id, es, ns, h1, hn, he, hg⟩
  · cases h0
  have hlen := hn.len
  have h00 : 0 < ns.length := by rw [hlen]; exact (List.getElem?_eq_some_iff.1 h0).1
  have hg0 : ns[0]? = some ns[0] := List.getElem?_eq_getElem h00
  rcases one_link (room := 65536) h1 (hn.lead 0 s0 _ h0 hg0) (hg _ (List.getElem_mem h00)) s with ⟨e1, e2⟩ | ⟨n, e1, e2, e3, e4⟩
  · left
    refine ⟨e1, ?_⟩
    rw [e2]
    exact .inr ⟨hl, id, es, ns, h1, hn, he, hg⟩
  · right
    have hnn : n ∉ ns := fun hm => by
      have := entGet_has (hg n hm)
      rw [e3] at this
      cases this
    have hr := h1.rising hI
    refine ⟨e1, .inr ⟨by simp, id, _, ns ++ [n], e4, ⟨by simp [hlen], fun i x y hx hy => ?_, ?_⟩, ?_, fun m hm => ?_⟩⟩
    · rcases Nat.lt_or_ge i l.length with hi | hi
      · rw [List.getElem?_append_left hi] at hx
        rw [List.getElem?_append_left (by omega)] at hy
        exact hn.lead i x y hx hy
      · rw [List.getElem?_append_right hi] at hx
        rw [List.getElem?_append_right (by omega)] at hy
        have hi0 : i - l.length = 0 := by
          have := (List.getElem?_eq_some_iff.1 hx).1
          simp at this
          omega
        rw [hi0] at hx
        rw [show i - ns.length = 0 by omega] at hy
        simp only [List.getElem?_cons_zero, Option.some.injEq] at hx hy
        subst hx; subst hy
        exact e2
    · rw [List.nodup_append]
      exact ⟨hn.nodup, by simp, fun a ha b hb => by simp only [List.mem_singleton] at hb; subst hb; exact fun e => hnn (e ▸ ha)⟩
    · rw [len_put e3, he]; simp
    · rcases List.mem_append.1 hm with hm | hm
      · rw [entGet_put_other hr e3 (fun e => hnn (e ▸ hm))]; exact hg m hm
      · simp only [List.mem_singleton] at hm
        subst hm
        exact entGet_put hr e3

theorem entSize_bound : ∀ {es : List Ent}, (∀ e ∈ es, e.1.size ≤ 255) → entSize es ≤ 255 * es.length
  | [], _ => Nat.le_refl _
  | x :: r, h => by
    have h1 := entSize_bound (es := r) (fun e he => h e (List.mem_cons_of_mem _ he))
    have h2 := h x List.mem_cons_self
    rw [entSize_cons]
    simp only [List.length_cons]
    omega

theorem over_all (s : ByteArray) : over (⟨#[]⟩ ++ noughts s.size) 0 s = s := by
  apply ba_ext
  rw [over_list]
  simp only [List.take_zero, List.nil_append, Nat.zero_add]
  rw [List.drop_of_length_le]
  · simp
  · rw [len_data, ByteArray.size_append, noughts_size]
    show 0 + s.size ≤ s.size
    omega

theorem one_write {d : Nds} {k : Int} {es : List Ent} {mode holds : Int} (h : One d k es mode holds ⟨#[]⟩) (hI : DInv d) (hl : es.length ≤ 20) {s : ByteArray} (hs : s.size ≤ 500) :
    writeErr d 65536 k 0 s = 0 ∧ One (writeTo d 65536 k 0 s) k es mode holds s := by
  have hk := h.k1
  have hh : has d k := by unfold has; rw [h.file]; simp
  have hr := has_range hh
  have hf : fileErr d k = 0 := by unfold fileErr; rw [h.file]; rfl
  have hu := h.used
  have hes : entSize es ≤ 255 * es.length := entSize_bound (fun e he => okName_size ((hI.node 1).names e (by rw [h.root]; exact he)))
  have he : writeErr d 65536 k 0 s = 0 := by
    unfold writeErr
    rw [if_neg (by rw [hf]; simp), if_neg (by decide)]
    split; · rfl
    rw [if_neg (by decide), if_neg (by omega), if_neg]
    unfold endOf
    rw [h.file]
    simp only [show (ByteArray.size ⟨#[]⟩ : Nat) = 0 from rfl]
    rw [hu]
    simp only [show (ByteArray.size ⟨#[]⟩ : Nat) = 0 from rfl]
    omega
  refine ⟨he, ?_⟩
  unfold writeTo
  split
  · have hw : writeNd (nd d k) (0 : Int).toNat s = ⟨1, mode, holds, s, []⟩ := by
      unfold writeNd
      rw [h.file]
      simp only [show (ByteArray.size ⟨#[]⟩ : Nat) = 0 from rfl, Nd.setData]
      congr 1
      rw [show max 0 ((0 : Int).toNat + s.size) - 0 = s.size by simp]
      exact over_all s
    rw [hw]
    refine ⟨?_, ?_, fun j j1 jk => ?_, hk, h.kids, h.holds0⟩
    · rw [nd_upd hr.1 hr.2, if_neg (by omega), h.root]
    · rw [nd_upd hr.1 hr.2, if_pos rfl]
    · rw [nd_upd hr.1 hr.2, if_neg jk, h.rest j j1 jk]
  · next hn =>
    have : s = ⟨#[]⟩ := by
      have h0 : s.size = 0 := Classical.byContradiction fun h0 => hn ⟨he, h0⟩
      exact ba_ext (by have h9 : s.data.toList.length = 0 := by rw [len_data]; exact h0
                       rw [List.eq_nil_of_length_eq_zero h9])
    rw [this]
    exact h

/-- What is left of the names behind so many. -/
def K2 (d : Nds) (data : ByteArray) (l ns : List ByteArray) (id : Int) (k : Nat) : Prop :=
  Nms l ns ∧ (k < l.length → ∃ es, One d id es 384 0 data ∧ es.length = l.length - k ∧ ∀ n ∈ ns.drop k, entGet es n = some id) ∧ (l.length ≤ k → Zero d)

/-- The file is written at its last path. -/
theorem k1_write {d : Nds} {l : List ByteArray} (h : K1 d l) (hl : l ≠ []) (hl10 : l.length ≤ 10) {s : ByteArray} (hs : l[l.length - 1]? = some s) :
    ∃ id es ns, (openR d 65536 1 0 s 2 0).2 = (id, 0) ∧ One (openR d 65536 1 0 s 2 0).1 id es 384 1 ⟨#[]⟩ ∧ es ≠ [] ∧ es.length ≤ 20 ∧ Nms l ns ∧ es.length = ns.length ∧ ∀ n ∈ ns, entGet es n = some id := by
  rcases h with ⟨h0, _⟩ | ⟨_, id, es, ns, h1, hn, he, hg⟩
  · exact absurd h0 hl
  have hlen := hn.len
  have hp : 0 < l.length := List.length_pos_iff.2 hl
  have hi : l.length - 1 < ns.length := by omega
  obtain ⟨h2, h3⟩ := one_open (room := 65536) h1 (hn.lead _ s _ hs (List.getElem?_eq_getElem hi)) (hg _ (List.getElem_mem hi)) 0 2 0 (by decide) (by decide) (by decide)
  exact ⟨id, es, ns, h2, h3, fun e => by rw [e] at he; simp at he; omega, by omega, hn, he, hg⟩

theorem k2_start {d : Nds} {l ns : List ByteArray} {id : Int} {es : List Ent} {data : ByteArray} (h : One d id es 384 1 data) (hne : es ≠ []) (hn : Nms l ns) (he : es.length = ns.length) (hg : ∀ n ∈ ns, entGet es n = some id) :
    relErr d id = 0 ∧ K2 (relD d id) data l ns id 0 := by
  obtain ⟨h1, h2⟩ := one_rel h (by decide) (.inl hne)
  refine ⟨h1, hn, fun _ => ⟨es, h2, by rw [he, hn.len]; rfl, fun n hm => hg n (by simpa using hm)⟩, fun hl => ?_⟩
  have := hn.len
  exact absurd (List.eq_nil_of_length_eq_zero (by omega)) hne

/-- A round: the file is opened, read, told of, closed, and a name of it goes. -/
theorem k2_step {d : Nds} {l ns : List ByteArray} {id : Int} {data : ByteArray} {k : Nat} (h : K2 d data l ns id k) (hd : data.size ≤ 500) {s : ByteArray} (hs : l[k]? = some s) :
    (openR d 65536 1 0 s 1 0).2 = (id, 0) ∧ readOf (openR d 65536 1 0 s 1 0).1 id 0 1000 = data ∧ (has (openR d 65536 1 0 s 1 0).1 id) ∧ (links (openR d 65536 1 0 s 1 0).1 id : Int) = (l.length : Int) - k ∧
      relErr (openR d 65536 1 0 s 1 0).1 id = 0 ∧ (DInv (relD (openR d 65536 1 0 s 1 0).1 id) → (remR (relD (openR d 65536 1 0 s 1 0).1 id) 1 s false).2 = 0 ∧ K2 (remR (relD (openR d 65536 1 0 s 1 0).1 id) 1 s false).1 data l ns id (k + 1)) := by
  obtain ⟨hn, h1, _⟩ := h
  have hk : k < l.length := (List.getElem?_eq_some_iff.1 hs).1
  obtain ⟨es, h1, hl, hg⟩ := h1 hk
  have hlen := hn.len
  have hkn : k < ns.length := by omega
  have hld := hn.lead k s _ hs (List.getElem?_eq_getElem hkn)
  have hdr : ns.drop k = ns[k] :: ns.drop (k + 1) := List.drop_eq_getElem_cons hkn
  have hgk := hg ns[k] (by rw [hdr]; exact List.mem_cons_self)
  have hne : es ≠ [] := fun e => by rw [e] at hl; simp at hl; omega
  obtain ⟨h2, h3⟩ := one_open (room := 65536) h1 hld hgk 0 1 0 (by decide) (by decide) (by decide)
  obtain ⟨h4, h5⟩ := one_rel h3 (by decide) (.inl hne)
  refine ⟨h2, ?_, ?_, ?_, h4, fun hI => ?_⟩
  · have hda : dataOf (openR d 65536 1 0 s 1 0).1 id = data := by unfold dataOf; rw [h3.file]; rfl
    have hde : dataErr (openR d 65536 1 0 s 1 0).1 id = 0 := by unfold dataErr; rw [h3.file]; rfl
    unfold readOf readErr
    rw [hde, hda, if_pos (by decide)]
    unfold cut
    have e1 : min (0 : Int).toNat data.size = 0 := by simp
    have e2 : min (1000 : Int).toNat (data.size - 0) = data.size := by show min 1000 (data.size - 0) = data.size; omega
    rw [e1, e2]
    apply ba_ext
    rw [data_extract, Nat.zero_add, List.drop_zero, List.take_of_length_le (by rw [len_data]; exact Nat.le_refl _)]
  · unfold has; rw [h3.file]; simp
  · rw [h3.links, hl]; omega
  · obtain ⟨h6, h7, h8⟩ := one_rem h5 hI hld hld.ne hgk
    have hr := h5.rising hI
    have hdl := len_del hr hgk
    refine ⟨h6, hn, fun hk1 => ⟨entDel es ns[k], h7 (fun e => by rw [e] at hdl; simp at hdl; omega), by omega, fun m hm => ?_⟩, fun hk1 => h8 (List.eq_nil_of_length_eq_zero (by omega))⟩
    have hmk : m ≠ ns[k] := fun e => by
      have hnd := hn.nodup
      rw [← List.take_append_drop k ns, hdr, List.nodup_append] at hnd
      have := (List.nodup_cons.1 hnd.2.1).1
      exact this (e ▸ hm)
    have hgm := hg m (by rw [hdr]; exact List.mem_cons_of_mem _ hm)
    rw [entGet_iff hr] at hgm
    rw [entGet_iff (hr.del _)]
    exact mem_entDel.2 ⟨hgm, hmk⟩

end Go.Proofs.YtbmalnllppamdaaGreatDoor
