/-
  Layer 4, plain: a disk's nodes as the document has them, what names them, what lets go of them. No program in sight.
-/
import Derived.Test.YtbcejodnjeklpaaDirM
namespace Go.Proofs.Ytbcejodnjeklpaa

/-- A node: kind 0 is none. -/
structure Nd where
  kind : Int
  mode : Int
  holds : Int
  data : ByteArray
  ents : List Ent

def Nd.gone : Nd := ⟨0, 0, 0, ⟨#[]⟩, []⟩

def Nd.setMode (n : Nd) (m : Int) : Nd := ⟨n.kind, m, n.holds, n.data, n.ents⟩
def Nd.setHolds (n : Nd) (h : Int) : Nd := ⟨n.kind, n.mode, h, n.data, n.ents⟩
def Nd.setData (n : Nd) (s : ByteArray) : Nd := ⟨n.kind, n.mode, n.holds, s, n.ents⟩
def Nd.setEnts (n : Nd) (l : List Ent) : Nd := ⟨n.kind, n.mode, n.holds, n.data, l⟩

abbrev Nds := List Nd

def nd (d : Nds) (i : Int) : Nd := if 0 ≤ i then (d[i.toNat]?).getD Nd.gone else Nd.gone
def has (d : Nds) (i : Int) : Prop := (nd d i).kind ≠ 0
instance (d : Nds) (i : Int) : Decidable (has d i) := inferInstanceAs (Decidable (_ ≠ _))
def upd (d : Nds) (i : Int) (n : Nd) : Nds := if 0 ≤ i then d.set i.toNat n else d

def sumBy (f : Nd → Nat) (d : Nds) : Nat := (d.map f).sum
def namesOf (i : Int) (n : Nd) : Nat := n.ents.countP fun e => decide (e.2 = i)
def cnt (d : Nds) (i : Int) : Nat := sumBy (namesOf i) d
def links (d : Nds) (i : Int) : Nat := (if i = 1 then 1 else 0) + cnt d i
def room1 (n : Nd) : Nat := n.data.size + entSize n.ents
def used (d : Nds) : Nat := sumBy room1 d
def here1 (n : Nd) : Nat := if n.kind = 0 then 0 else 1
def count (d : Nds) : Nat := sumBy here1 d
def mass1 (n : Nd) : Nat := 1 + n.holds.toNat + n.ents.length
def mass (d : Nds) : Nat := sumBy mass1 d

theorem nd_gone {d : Nds} {i : Int} (h : ¬ (0 ≤ i ∧ i.toNat < d.length)) : nd d i = Nd.gone := by
  unfold nd
  split
  · rw [List.getElem?_eq_none (by omega)]; rfl
  · rfl

theorem has_range {d : Nds} {i : Int} (h : has d i) : 0 ≤ i ∧ i.toNat < d.length := by
  by_cases hh : 0 ≤ i ∧ i.toNat < d.length
  · exact hh
  · unfold has at h; rw [nd_gone hh] at h; exact absurd rfl h

theorem nd_get {d : Nds} {i : Int} (h0 : 0 ≤ i) (h : i.toNat < d.length) : d[i.toNat]? = some (nd d i) := by
  unfold nd
  rw [if_pos h0, List.getElem?_eq_getElem h]; rfl

theorem nd_nat {d : Nds} {i : Nat} {n : Nd} (h : d[i]? = some n) : nd d i = n := by
  simp [nd, h]

theorem upd_length (d : Nds) (i : Int) (n : Nd) : (upd d i n).length = d.length := by
  unfold upd; split <;> simp

theorem nd_upd {d : Nds} {i : Int} (h0 : 0 ≤ i) (h : i.toNat < d.length) (n : Nd) (j : Int) : nd (upd d i n) j = if j = i then n else nd d j := by
  unfold nd upd
  rw [if_pos h0]
  by_cases hj : 0 ≤ j
  · rw [if_pos hj, if_pos hj]
    by_cases e : j = i
    · subst e; simp [h]
    · have : i.toNat ≠ j.toNat := by omega
      simp [e, this]
  · rw [if_neg hj, if_neg hj, if_neg (by omega)]

theorem sumBy_set (f : Nd → Nat) (d : Nds) (i : Nat) (n o : Nd) (h : d[i]? = some o) : sumBy f (d.set i n) + f o = sumBy f d + f n := by
  induction d generalizing i with
  | nil => simp at h
  | cons a d ih =>
    cases i with
    | zero => simp at h; subst h; simp [sumBy]; omega
    | succ i =>
      simp at h
      have := ih i h
      simp [sumBy] at this ⊢
      omega

theorem sumBy_upd (f : Nd → Nat) {d : Nds} {i : Int} (h0 : 0 ≤ i) (h : i.toNat < d.length) (n : Nd) : sumBy f (upd d i n) + f (nd d i) = sumBy f d + f n := by
  unfold upd
  rw [if_pos h0]
  exact sumBy_set f d _ n _ (nd_get h0 h)

theorem sumBy_append (f : Nd → Nat) (d : Nds) (n : Nd) : sumBy f (d ++ [n]) = sumBy f d + f n := by
  simp [sumBy]

theorem sumBy_ge (f : Nd → Nat) {d : Nds} {i : Int} (h0 : 0 ≤ i) (h : i.toNat < d.length) : f (nd d i) ≤ sumBy f d := by
  have := sumBy_upd f h0 h Nd.gone
  have hg := sumBy_upd (fun n => f n) h0 h (nd d i)
  have h2 : ∀ (l : Nds) (k : Nat) (o : Nd), l[k]? = some o → f o ≤ sumBy f l := by
    intro l
    induction l with
    | nil => intro k o h; simp at h
    | cons a l ih =>
      intro k o h
      cases k with
      | zero => simp at h; subst h; simp [sumBy]
      | succ k =>
        simp at h
        have := ih k o h
        simp [sumBy] at this ⊢
        omega
  exact h2 d _ _ (nd_get h0 h)

/-- A sum is over nothing. -/
theorem sumBy_zero {f : Nd → Nat} {d : Nds} : sumBy f d = 0 ↔ ∀ n ∈ d, f n = 0 := by
  induction d with
  | nil => simp [sumBy]
  | cons a d ih =>
    simp only [sumBy, List.map_cons, List.sum_cons, List.mem_cons, forall_eq_or_imp] at ih ⊢
    rw [Nat.add_eq_zero_iff, ih]

theorem namesOf_pos {i : Int} {n : Nd} : 0 < namesOf i n ↔ ∃ e ∈ n.ents, e.2 = i := by
  simp [namesOf, List.countP_pos_iff]

theorem cnt_pos {d : Nds} {i : Int} : 0 < cnt d i ↔ ∃ j e, e ∈ (nd d j).ents ∧ e.2 = i := by
  rw [Nat.pos_iff_ne_zero, Ne, cnt, sumBy_zero]
  constructor
  · intro h
    simp only [Classical.not_forall] at h
    obtain ⟨n, hn, hz⟩ := h
    obtain ⟨e, he, hi⟩ := namesOf_pos.1 (Nat.pos_of_ne_zero hz)
    obtain ⟨j, hj⟩ := List.mem_iff_getElem?.1 hn
    exact ⟨j, e, by rw [nd_nat hj]; exact he, hi⟩
  · rintro ⟨j, e, he, hi⟩ h
    have hr : 0 ≤ j ∧ j.toNat < d.length := by
      by_cases hh : 0 ≤ j ∧ j.toNat < d.length
      · exact hh
      · rw [nd_gone hh] at he; cases he
    have := h (nd d j) (List.mem_of_getElem? (nd_get hr.1 hr.2))
    have h2 := namesOf_pos.2 ⟨e, he, hi⟩
    omega

/-- Nobody names it, or holds it. -/
def Garb (d : Nds) (i : Int) : Prop := has d i ∧ links d i = 0 ∧ (nd d i).holds = 0
def NoGarb (d : Nds) : Prop := ∀ i, ¬ Garb d i
def kill (d : Nds) (i : Int) : Nds := upd d i Nd.gone

inductive Kills : Nds → Nds → Prop
  | refl (d : Nds) : Kills d d
  | step {d d' : Nds} (i : Int) : Garb d i → Kills (kill d i) d' → Kills d d'

theorem Kills.trans {a b c : Nds} (h : Kills a b) (k : Kills b c) : Kills a c := by
  induction h with
  | refl => exact k
  | step i hi _ ih => exact .step i hi (ih k)

theorem Kills.one {d : Nds} {i : Int} (h : Garb d i) : Kills d (kill d i) := .step i h (.refl _)

theorem nd_kill {d : Nds} {i : Int} (h : has d i) (j : Int) : nd (kill d i) j = if j = i then Nd.gone else nd d j := nd_upd (has_range h).1 (has_range h).2 _ _

theorem kill_length (d : Nds) (i : Int) : (kill d i).length = d.length := upd_length _ _ _

theorem has_kill {d : Nds} {i j : Int} (h : has d i) : has (kill d i) j ↔ j ≠ i ∧ has d j := by
  unfold has
  rw [nd_kill h]
  by_cases e : j = i
  · simp [e, Nd.gone]
  · simp [e]

theorem cnt_kill {d : Nds} {i : Int} (h : has d i) (j : Int) : cnt (kill d i) j + namesOf j (nd d i) = cnt d j := by
  have := sumBy_upd (namesOf j) (has_range h).1 (has_range h).2 Nd.gone
  simpa [cnt, kill, namesOf, Nd.gone] using this

theorem links_kill {d : Nds} {i : Int} (h : has d i) (j : Int) : links (kill d i) j + namesOf j (nd d i) = links d j := by
  have := cnt_kill h j
  unfold links
  omega

theorem count_kill {d : Nds} {i : Int} (h : has d i) : count (kill d i) + 1 = count d := by
  have := sumBy_upd here1 (has_range h).1 (has_range h).2 Nd.gone
  have h1 : here1 (nd d i) = 1 := by unfold here1; rw [if_neg h]
  rw [h1] at this
  simpa [count, kill, here1, Nd.gone] using this

theorem used_kill {d : Nds} {i : Int} (h : has d i) : used (kill d i) + room1 (nd d i) = used d := by
  have := sumBy_upd room1 (has_range h).1 (has_range h).2 Nd.gone
  have h1 : room1 Nd.gone = 0 := rfl
  rw [h1] at this
  simpa [used, kill] using this

theorem mass_kill {d : Nds} {i : Int} (h : has d i) : mass (kill d i) ≤ mass d := by
  have := sumBy_upd mass1 (has_range h).1 (has_range h).2 Nd.gone
  have h1 : mass1 Nd.gone = 1 := rfl
  have h2 : 1 ≤ mass1 (nd d i) := by unfold mass1; omega
  unfold mass kill at *
  omega

/-- What is garbage stays garbage when another goes. -/
theorem Garb.other {d : Nds} {i j : Int} (hi : Garb d i) (hj : has d j) (hne : i ≠ j) : Garb (kill d j) i := by
  obtain ⟨h1, h2, h3⟩ := hi
  refine ⟨(has_kill hj).2 ⟨hne, h1⟩, ?_, ?_⟩
  · have := links_kill hj i; omega
  · rw [nd_kill hj, if_neg hne]; exact h3

theorem kill_comm {d : Nds} {i j : Int} (hi : has d i) (hj : has d j) (hne : i ≠ j) : kill (kill d i) j = kill (kill d j) i := by
  have := has_range hi
  have := has_range hj
  unfold kill upd
  rw [if_pos (by omega), if_pos (by omega), if_pos (by omega), if_pos (by omega)]
  exact List.set_comm _ _ (by omega)

theorem Kills.normal (d : Nds) : ∃ d', Kills d d' ∧ NoGarb d' := by
  generalize hn : count d = n
  induction n generalizing d with
  | zero =>
    refine ⟨d, .refl d, fun i hi => ?_⟩
    have := count_kill hi.1
    omega
  | succ n ih =>
    by_cases h : NoGarb d
    · exact ⟨d, .refl d, h⟩
    · simp only [NoGarb, Classical.not_forall, Classical.not_not] at h
      obtain ⟨i, hi⟩ := h
      have := count_kill hi.1
      obtain ⟨d', h1, h2⟩ := ih (kill d i) (by omega)
      exact ⟨d', .step i hi h1, h2⟩

/-- It makes no odds in which order the garbage goes. -/
theorem Kills.unique {d a b : Nds} (ha : Kills d a) (hb : Kills d b) (na : NoGarb a) (nb : NoGarb b) : a = b := by
  generalize hn : count d = n
  induction n using Nat.strongRecOn generalizing d a b with
  | ind n ih =>
    cases ha with
    | refl =>
      cases hb with
      | refl => rfl
      | step j hj _ => exact absurd hj (na j)
    | step i hi ha' =>
      cases hb with
      | refl => exact absurd hi (nb i)
      | step j hj hb' =>
        have ci := count_kill hi.1
        have cj := count_kill hj.1
        by_cases e : i = j
        · subst e; exact ih _ (by omega) ha' hb' na nb rfl
        · obtain ⟨c, hc, nc⟩ := Kills.normal (kill (kill d i) j)
          have h1 := ih _ (by omega) ha' (.step j (hj.other hi.1 (fun h => e h.symm)) hc) na nc rfl
          rw [kill_comm hi.1 hj.1 e] at hc
          have h2 := ih _ (by omega) hb' (.step i (hi.other hj.1 e) hc) nb nc rfl
          exact h1.trans h2.symm

/-- The disk without its garbage. -/
noncomputable def gc (d : Nds) : Nds := Classical.choose (Kills.normal d)
theorem gc_kills (d : Nds) : Kills d (gc d) := (Classical.choose_spec (Kills.normal d)).1
theorem gc_clean (d : Nds) : NoGarb (gc d) := (Classical.choose_spec (Kills.normal d)).2
theorem gc_eq {d d' : Nds} (h : Kills d d') (hn : NoGarb d') : gc d = d' := (gc_kills d).unique h (gc_clean d) hn
theorem gc_same {d : Nds} (h : NoGarb d) : gc d = d := gc_eq (.refl d) h

/-- What a node may be. -/
structure NdOk (n : Nd) : Prop where
  kind0 : 0 ≤ n.kind
  kind3 : n.kind ≤ 3
  gone : n.kind = 0 → n = Nd.gone
  mode0 : 0 ≤ n.mode
  mode1 : n.mode ≤ 4095
  holds : 0 ≤ n.holds
  data : n.data.size ≤ 4194304
  dirs : n.kind = 2 → n.data = ⟨#[]⟩
  flat : n.kind ≠ 2 → n.ents = []
  rising : Rising n.ents
  names : ∀ e ∈ n.ents, okName e.1 = true

theorem NdOk.none : NdOk Nd.gone := ⟨by decide, by decide, fun _ => rfl, by decide, by decide, by decide, by decide, (fun h => by cases h), fun _ => rfl, List.Pairwise.nil, (fun _ h => by cases h)⟩

/-- j has an entry for the directory i. -/
def Par (d : Nds) (j i : Int) : Prop := (nd d i).kind = 2 ∧ ∃ e ∈ (nd d j).ents, e.2 = i

/-- What holds of a disk. -/
structure DInv (d : Nds) : Prop where
  two : 2 ≤ d.length
  zero : nd d 0 = Nd.gone
  root : (nd d 1).kind = 2
  node : ∀ i, NdOk (nd d i)
  tgt : ∀ i e, e ∈ (nd d i).ents → has d e.2 ∧ e.2 ≠ 1
  single : ∀ i, (nd d i).kind = 2 → links d i ≤ 1
  acyc : ∀ i, Acc (Par d) i

theorem DInv.pos {d : Nds} (h : DInv d) {i : Int} (hi : has d i) : 1 ≤ i := by
  have := has_range hi
  by_cases e : i = 0
  · subst e; rw [has, h.zero] at hi; exact absurd rfl hi
  · omega

theorem DInv.not_garb_root {d : Nds} : ¬ Garb d 1 := fun h => by have := h.2.1; unfold links at this; simp at this

theorem DInv.kill {d : Nds} (h : DInv d) {i : Int} (hi : Garb d i) : DInv (kill d i) := by
  have hg := hi.1
  have hne : i ≠ 1 := fun e => by subst e; exact DInv.not_garb_root hi
  have hpos := h.pos hg
  refine ⟨by rw [kill_length]; exact h.two, ?_, ?_, fun j => ?_, fun j e he => ?_, fun j hj => ?_, fun j => ?_⟩
  · rw [nd_kill hg, if_neg (by omega)]; exact h.zero
  · rw [nd_kill hg, if_neg (fun e => hne e.symm)]; exact h.root
  · rw [nd_kill hg]; split
    · exact NdOk.none
    · exact h.node j
  · rw [nd_kill hg] at he
    split at he
    · cases he
    · obtain ⟨h1, h2⟩ := h.tgt j e he
      refine ⟨(has_kill hg).2 ⟨fun e1 => ?_, h1⟩, h2⟩
      have : 0 < cnt d i := cnt_pos.2 ⟨j, e, he, e1⟩
      have := hi.2.1
      unfold links at this
      omega
  · rw [nd_kill hg] at hj
    split at hj
    · cases hj
    · have := h.single j hj
      have := links_kill hg j
      omega
  · have := h.acyc j
    induction this with
    | intro j _ ih =>
      refine ⟨j, fun k hk => ih k ?_⟩
      obtain ⟨h1, e, he, h2⟩ := hk
      rw [nd_kill hg] at h1 he
      split at h1
      · cases h1
      · split at he
        · cases he
        · exact ⟨h1, e, he, h2⟩

theorem DInv.kills {d d' : Nds} (h : DInv d) (k : Kills d d') : DInv d' := by
  induction k with
  | refl => exact h
  | step i hi _ ih => exact ih (h.kill hi)

theorem DInv.gc {d : Nds} (h : DInv d) : DInv (gc d) := h.kills (gc_kills d)

theorem Kills.length {d d' : Nds} (k : Kills d d') : d'.length = d.length := by
  induction k with
  | refl => rfl
  | step i _ _ ih => rw [ih, kill_length]

theorem Kills.mass {d d' : Nds} (k : Kills d d') : mass d' ≤ mass d := by
  induction k with
  | refl => exact Nat.le_refl _
  | step i hi _ ih => exact Nat.le_trans ih (mass_kill hi.1)

theorem Kills.was {d d' : Nds} (k : Kills d d') {i : Int} (h : has d' i) : has d i ∧ nd d' i = nd d i := by
  induction k with
  | refl => exact ⟨h, rfl⟩
  | step j hj _ ih =>
    obtain ⟨h1, h2⟩ := ih h
    obtain ⟨h3, h4⟩ := (has_kill hj.1).1 h1
    exact ⟨h4, by rw [h2, nd_kill hj.1, if_neg h3]⟩

/-- What is named or held stays. -/
theorem Kills.stay {d d' : Nds} (k : Kills d d') {i : Int} (h : has d i) (hold : 0 < (nd d i).holds) : has d' i := by
  induction k with
  | refl => exact h
  | step j hj _ ih =>
    have hne : i ≠ j := fun e => by subst e; have := hj.2.2; omega
    refine ih ((has_kill hj.1).2 ⟨hne, h⟩) ?_
    rw [nd_kill hj.1, if_neg hne]; exact hold

theorem mass_ge (d : Nds) : d.length ≤ mass d := by
  induction d with
  | nil => simp
  | cons a d ih =>
    simp [mass, sumBy] at ih ⊢
    have : 1 ≤ mass1 a := by unfold mass1; omega
    omega

theorem used_le {d : Nds} (h : DInv d) : used d ≤ 4194304 * mass d := by
  have hn : ∀ n ∈ d, NdOk n := fun n hn => by
    obtain ⟨j, hj⟩ := List.mem_iff_getElem?.1 hn
    have := h.node j
    rwa [nd_nat hj] at this
  clear h
  induction d with
  | nil => simp [used, sumBy]
  | cons a d ih =>
    have ih := ih (fun n h => hn n (List.mem_cons_of_mem _ h))
    have ha := hn a List.mem_cons_self
    have h2 : entSize a.ents ≤ 255 * a.ents.length := by
      have : ∀ l : List Ent, (∀ e ∈ l, okName e.1 = true) → entSize l ≤ 255 * l.length := by
        intro l hl
        induction l with
        | nil => simp [entSize]
        | cons x l ih =>
          have h1 := ih (fun e h => hl e (List.mem_cons_of_mem _ h))
          have h2 := hl x List.mem_cons_self
          simp [okName] at h2
          simp [entSize] at h1 ⊢
          omega
      exact this _ ha.names
    have h3 := ha.data
    simp only [used, mass, sumBy, List.map_cons, List.sum_cons] at ih ⊢
    have h4 : room1 a ≤ 4194304 * mass1 a := by unfold room1 mass1; omega
    rw [Nat.mul_add]
    omega

end Go.Proofs.Ytbcejodnjeklpaa
