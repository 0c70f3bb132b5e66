/-
  Layer 5, plain: the disks that are built node by node. No program in sight.
-/
import Derived.Test.YtfomkkoecelakaaDoorB08
import Derived.Test.YtfomkkoecelakaaDoorB11
import Derived.Test.YtfomkkoecelakaaDoorB12
import Derived.Test.YtfomkkoecelakaaDoorB13

set_option linter.unusedSimpArgs false
set_option linter.unusedVariables false

set_option maxRecDepth 100000
namespace Go.Proofs.YtfomkkoecelakaaDoor

structure N5 where
  at' : Int
  name : ByteArray
  kind : Int
  mode : Int
  data : ByteArray

/-- The directory that is meant. -/
def bAt (dirs : List Int) (x : Int) : Int := (dirs[(x % 18446744073709551616).toNat % dirs.length]?).getD 1

abbrev room5 : Int := 1048576

/-- One node more. -/
noncomputable def bOne (s : Nds × List Int) (n : N5) : Nds × List Int :=
  if makeErr s.1 room5 n.kind n.mode n.data ≠ 0 then s
  else (relD (enterD (s.1 ++ [newNd n.kind n.mode n.data]) room5 (bAt s.2 n.at') n.name s.1.length) s.1.length,
    if enterErr (s.1 ++ [newNd n.kind n.mode n.data]) room5 (bAt s.2 n.at') n.name s.1.length = 0 ∧ n.kind = 2 then s.2 ++ [(s.1.length : Int)] else s.2)
noncomputable def builtD (l : List N5) : Nds × List Int := l.foldl bOne (newD, [1])

/-- What holds of a disk that is being built, behind k nodes. -/
structure Bt (s : Nds × List Int) (k : Nat) : Prop where
  holds : ∀ i, (nd s.1 i).holds = 0
  mode : (nd s.1 1).mode = 493
  mass : mass s.1 ≤ 2 + 3 * k
  some : s.2 ≠ []
  dirs : ∀ i ∈ s.2, 1 ≤ i ∧ i < s.1.length
  llen : s.2.length ≤ k + 1

theorem bt_new : Bt (newD, [1]) 0 where
  holds i := by rw [nd_new]; split <;> rfl
  mode := rfl
  mass := by decide
  some := by simp
  dirs i hi := by obtain rfl : i = 1 := by simpa using hi
                  exact ⟨by decide, by decide⟩
  llen := by simp

theorem bAt_mem {l : List Int} (hl : l ≠ []) (x : Int) : bAt l x ∈ l := by
  unfold bAt
  have h1 : 0 < l.length := List.length_pos_iff.2 hl
  have h2 := Nat.mod_lt (x % 18446744073709551616).toNat h1
  rw [List.getElem?_eq_getElem h2]
  exact List.getElem_mem h2

theorem Kills.node {d d' : Nds} (h : Kills d d') (i : Int) : nd d' i = nd d i ∨ nd d' i = Nd.gone := by
  induction h with
  | refl => exact .inl rfl
  | step j hj _ ih =>
    rw [nd_kill hj.1] at ih
    split at ih
    · exact .inr (ih.elim id id)
    · exact ih

theorem gc_node (d : Nds) (i : Int) : nd (gc d) i = nd d i ∨ nd (gc d) i = Nd.gone := (gc_kills d).node i

theorem gc_root {d : Nds} (h : DInv d) : nd (gc d) 1 = nd d 1 := by
  rcases gc_node d 1 with e | e
  · exact e
  · have := h.gc.root
    rw [e] at this
    cases this

theorem relD_node (d : Nds) (i j : Int) : (nd (relD d i) j = nd (relTo d i) j ∨ nd (relD d i) j = Nd.gone) ∨ (relErr d i ≠ 0 ∧ relD d i = d) := by
  unfold relD
  by_cases h : relErr d i = 0
  · rw [if_pos h]; exact .inl (gc_node _ _)
  · rw [if_neg h]; exact .inr ⟨h, rfl⟩

theorem relErr_ok {d : Nds} {i : Int} (h1 : has d i) (h2 : (nd d i).holds ≠ 0) : relErr d i = 0 := by
  unfold relErr
  rw [if_neg h1, if_neg h2]

theorem makeErr_kind {d : Nds} {room kind m : Int} {s : ByteArray} (h : makeErr d room kind m s = 0) : 1 ≤ kind ∧ kind ≤ 3 := by
  unfold makeErr at h
  split at h; · cases h
  split at h; · cases h
  omega

theorem enterErr_folder {d : Nds} {room i k : Int} {name : ByteArray} (h : enterErr d room i name k = 0) : folderErr d i = 0 ∧ putErr (nd d i).ents name = 0 := by
  unfold enterErr at h
  split at h
  · next e => exact absurd h e
  · next e =>
    refine ⟨Classical.not_not.1 e, ?_⟩
    split at h; · cases h
    split at h; · cases h
    split at h; · cases h
    split at h
    · next e => exact absurd h e
    · next e => exact Classical.not_not.1 e

theorem folderErr_has {d : Nds} {i : Int} (h : folderErr d i = 0) : has d i ∧ (nd d i).kind = 2 := by
  unfold folderErr at h
  split at h; · cases h
  split at h
  · next e1 e2 => exact ⟨e1, e2⟩
  · cases h

/-- A fresh node is above no other. -/
theorem fresh_above {d : Nds} {n : Nd} (hn : n.ents = []) {i : Int} (hi : i ≠ d.length) : ¬ Above (d ++ [n]) d.length i := by
  have : ∀ i, Above (d ++ [n]) d.length i → i = d.length := by
    intro i h
    induction h with
    | self => rfl
    | step hp _ ih =>
      obtain ⟨_, e, he, _⟩ := hp
      rw [ih, nd_append, if_pos rfl, hn] at he
      cases he
  exact fun h => hi (this i h)

theorem enterD_nd {d : Nds} {room i k : Int} {name : ByteArray} (j : Int) : (nd (enterD d room i name k) j).holds = (nd d j).holds ∧ (nd (enterD d room i name k) j).mode = (nd d j).mode ∧ (nd (enterD d room i name k) j).kind = (nd d j).kind := by
  unfold enterD
  split
  · next h =>
    have hi := (folderErr_has (enterErr_folder h).1).1
    unfold enterTo
    rw [nd_setE hi]
    split
    · next e => rw [e]; exact ⟨rfl, rfl, rfl⟩
    · exact ⟨rfl, rfl, rfl⟩
  · exact ⟨rfl, rfl, rfl⟩

theorem enterD_len {d : Nds} {room i k : Int} {name : ByteArray} : (enterD d room i name k).length = d.length := by
  unfold enterD
  split
  · unfold enterTo setE; rw [upd_length]
  · rfl

theorem enterD_mass {d : Nds} {room i k : Int} {name : ByteArray} : mass (enterD d room i name k) ≤ mass d + 1 := by
  unfold enterD
  split
  · next h =>
    obtain ⟨h1, h2⟩ := enterErr_folder h
    exact Nat.le_of_eq (enter_mass (folderErr_has h1).1 h2)
  · omega

theorem relD_len (d : Nds) (i : Int) : (relD d i).length = d.length := by
  unfold relD
  split
  · rw [(gc_kills _).length]; unfold relTo; rw [upd_length]
  · rfl

theorem relD_mass {d : Nds} {i : Int} : mass (relD d i) ≤ mass d := by
  unfold relD
  split
  · next h =>
    have hi : has d i := by
      unfold relErr at h
      split at h
      · cases h
      · next e => exact e
    have h1 := (gc_kills (relTo d i)).mass
    have h2 := mass_upd (n := (nd d i).setHolds ((nd d i).holds - 1)) hi
    have h3 : mass1 ((nd d i).setHolds ((nd d i).holds - 1)) ≤ mass1 (nd d i) := by
      unfold mass1; simp only [Nd.setHolds]; omega
    unfold relTo at *
    omega
  · exact Nat.le_refl _

theorem nd_relTo {d : Nds} {i : Int} (hi : has d i) (j : Int) : nd (relTo d i) j = if j = i then (nd d i).setHolds ((nd d i).holds - 1) else nd d j := nd_upd (has_range hi).1 (has_range hi).2 _ _

theorem bt_one {s : Nds × List Int} {k : Nat} (h : Bt s k) (hI : DInv s.1) (n : N5) : Bt (bOne s n) (k + 1) := by
  obtain ⟨d, l⟩ := s
  unfold bOne
  split
  · exact ⟨h.holds, h.mode, by have := h.mass; omega, h.some, h.dirs, by have := h.llen; omega⟩
  · next he =>
    have he := Classical.not_not.1 he
    obtain ⟨k1, k2⟩ := makeErr_kind he
    simp only at he ⊢
    generalize hd1 : d ++ [newNd n.kind n.mode n.data] = d1
    have hn1 : ∀ j, nd d1 j = if j = d.length then newNd n.kind n.mode n.data else nd d j := fun j => by rw [← hd1, nd_append]
    have hm1 : mass d1 = mass d + 2 := by rw [← hd1, mass_append]; rfl
    have hl1 : d1.length = d.length + 1 := by rw [← hd1]; simp
    have ht := hI.two
    simp only at ht
    have hne : (1 : Int) ≠ d.length := by omega
    generalize hat : bAt l n.at' = at'
    have h2 := fun j => enterD_nd (d := d1) (room := room5) (i := at') (k := d.length) (name := n.name) j
    have hm2 := enterD_mass (d := d1) (room := room5) (i := at') (k := d.length) (name := n.name)
    have hl2 := enterD_len (d := d1) (room := room5) (i := at') (k := d.length) (name := n.name)
    generalize hd2 : enterD d1 room5 at' n.name d.length = d2 at *
    have hh : has d2 d.length := by
      unfold has
      rw [(h2 _).2.2, hn1, if_pos rfl]
      show n.kind ≠ 0
      omega
    have ho : (nd d2 d.length).holds = 1 := by rw [(h2 _).1, hn1, if_pos rfl]; rfl
    have hr : relErr d2 d.length = 0 := relErr_ok hh (by rw [ho]; decide)
    have hl3 := relD_len d2 d.length
    have hm3 := relD_mass (d := d2) (i := d.length)
    have hroot : has d2 1 := by
      unfold has
      rw [(h2 _).2.2, hn1, if_neg hne, hI.root]
      decide
    refine ⟨fun i => ?_, ?_, ?_, ?_, fun i hi => ?_, ?_⟩
    · rcases relD_node d2 d.length i with e | e
      · rcases e with e | e
        · simp only
          rw [e, nd_relTo hh]
          split
          · show (nd d2 d.length).holds - 1 = 0
            rw [ho]; rfl
          · next hne => rw [(h2 _).1, hn1, if_neg hne]; exact h.holds i
        · simp only; rw [e]; rfl
      · exact absurd hr e.1
    · simp only
      unfold relD
      rw [if_pos hr]
      have : ¬ Garb (relTo d2 d.length) 1 := DInv.not_garb_root
      have hg : nd (gc (relTo d2 d.length)) 1 = nd (relTo d2 d.length) 1 := by
        have hst : ∀ {a b : Nds}, Kills a b → nd b 1 = nd a 1 := by
          intro a b hk
          induction hk with
          | refl => rfl
          | step j hj _ ih =>
            rw [ih, nd_kill hj.1, if_neg]
            intro e
            subst e
            exact DInv.not_garb_root hj
        exact hst (gc_kills _)
      rw [hg, nd_relTo hh, if_neg hne, (h2 _).2.1, hn1, if_neg hne]
      exact h.mode
    · have := h.mass
      simp only at this ⊢
      omega
    · simp only
      split
      · simp
      · exact h.some
    · simp only at hi ⊢
      rw [hl3, hl2, hl1]
      split at hi
      · rcases List.mem_append.1 hi with h1 | h1
        · have := h.dirs i h1
          simp only at this
          omega
        · have : i = d.length := by simpa using h1
          omega
      · have := h.dirs i hi
        simp only at this
        omega
    · have := h.llen
      simp only at this ⊢
      split
      · simp; omega
      · omega

/-- Where nothing is held and nothing is garbage, each node is named. -/
theorem clean_links {d : Nds} (hcl : NoGarb d) (hh : ∀ i, (nd d i).holds = 0) {i : Int} (hi : has d i) (h1 : i ≠ 1) : 0 < cnt d i := by
  have := hcl i
  unfold Garb links at this
  rw [if_neg h1] at this
  refine Nat.pos_of_ne_zero fun h0 => this ⟨hi, by omega, hh i⟩

/-- What is above a directory is told by the entries. -/
theorem up_is {d : Nds} {lk up : Int → Int} (hI : DInv d) (hu : UpOk d lk up) (hlk : ∀ i, has d i → lk i = links d i) (hcl : NoGarb d) (hh : ∀ i, (nd d i).holds = 0) (i u : Int) (hf : folderErr d i = 0) (h : UpIs d i u) : up i = u := by
  obtain ⟨hi, hk⟩ := folderErr_has hf
  obtain ⟨p1, p2, p3⟩ := hu i hi
  by_cases h1 : i = 1
  · subst h1
    rcases h with ⟨_, rfl⟩ | ⟨e, he, hei⟩
    · exact p2 rfl
    · exact absurd hei (hI.tgt u e he).2
  · have hc := clean_links hcl hh hi h1
    rcases h with ⟨h0, _⟩ | ⟨e, he, hei⟩
    · omega
    · exact p1 u ⟨hk, e, he, hei⟩

end Go.Proofs.YtfomkkoecelakaaDoor

/-
  Layer 5, plain: a node that is built in full. No program in sight.
-/
set_option maxRecDepth 100000
namespace Go.Proofs.YtfomkkoecelakaaDoor

/-- A node that is made and entered. -/
theorem bOne_ok {d : Nds} {l : List Int} {n : N5} {at' : Int} (hI : DInv d) (hcl : NoGarb d) (hh : ∀ i, (nd d i).holds = 0) (hat : bAt l n.at' = at') (hne : at' ≠ d.length) (he : makeErr d room5 n.kind n.mode n.data = 0)
    (hE : enterErr (d ++ [newNd n.kind n.mode n.data]) room5 at' n.name d.length = 0) :
    (bOne (d, l) n).2 = (if n.kind = 2 then l ++ [(d.length : Int)] else l) ∧ (bOne (d, l) n).1.length = d.length + 1 ∧
      ∀ j, nd (bOne (d, l) n).1 j = if j = d.length then ⟨n.kind, n.mode, 0, n.data, []⟩ else if j = at' then (nd d at').setEnts (entPut (nd d at').ents n.name d.length) else nd d j := by
  obtain ⟨k1, k2⟩ := makeErr_kind he
  have ht := hI.two
  unfold bOne
  simp only
  rw [if_neg (by rw [he]; simp), hat]
  simp only [hE, true_and]
  generalize hd1 : d ++ [newNd n.kind n.mode n.data] = d1 at *
  have hn1 : ∀ j, nd d1 j = if j = d.length then newNd n.kind n.mode n.data else nd d j := fun j => by rw [← hd1, nd_append]
  have hl1 : d1.length = d.length + 1 := by rw [← hd1]; simp
  obtain ⟨hf, hp⟩ := enterErr_folder hE
  have hat1 := (folderErr_has hf).1
  have hd2 : enterD d1 room5 at' n.name d.length = enterTo d1 at' n.name d.length := by unfold enterD; rw [if_pos hE]
  rw [hd2]
  have hn2 : ∀ j, nd (enterTo d1 at' n.name d.length) j = if j = at' then (nd d at').setEnts (entPut (nd d at').ents n.name d.length) else nd d1 j := fun j => by
    unfold enterTo
    rw [nd_setE hat1, hn1 at', if_neg hne]
  have hl2 : (enterTo d1 at' n.name d.length).length = d.length + 1 := by unfold enterTo; rw [length_setE, hl1]
  have hnid : nd (enterTo d1 at' n.name d.length) d.length = newNd n.kind n.mode n.data := by rw [hn2, if_neg (fun e => hne e.symm), hn1, if_pos rfl]
  have hid : has (enterTo d1 at' n.name d.length) d.length := by unfold has; rw [hnid]; show n.kind ≠ 0; omega
  have hr : relErr (enterTo d1 at' n.name d.length) d.length = 0 := relErr_ok hid (by rw [hnid]; show (1 : Int) ≠ 0; decide)
  have hn3 : ∀ j, nd (relTo (enterTo d1 at' n.name d.length) d.length) j = if j = d.length then ⟨n.kind, n.mode, 0, n.data, []⟩ else if j = at' then (nd d at').setEnts (entPut (nd d at').ents n.name d.length) else nd d j := fun j => by
    rw [nd_relTo hid, hnid, hn2, hn1]
    split
    · rfl
    · split
      · rfl
      · rfl
  have hhas : entHas (nd d at').ents n.name = false := by
    rw [hn1, if_neg hne] at hp
    exact (putErr_zero.1 hp).2
  have hng : NoGarb (relTo (enterTo d1 at' n.name d.length) d.length) := by
    rintro j ⟨h1, h2, h3⟩
    have hc : cnt (relTo (enterTo d1 at' n.name d.length) d.length) j = 0 := by unfold links at h2; omega
    have hj1 : j ≠ 1 := fun e => by unfold links at h2; rw [if_pos e] at h2; omega
    have hno : ∀ i e, e ∈ (nd (relTo (enterTo d1 at' n.name d.length) d.length) i).ents → e.2 ≠ j := fun i e hm h4 => by
      have := cnt_pos.2 ⟨i, e, hm, h4⟩
      omega
    by_cases hj : j = d.length
    · subst hj
      refine hno at' (n.name, d.length) ?_ rfl
      rw [hn3, if_neg hne, if_pos rfl]
      exact (mem_entPut hhas _).2 (.inr rfl)
    · have hcd : cnt d j = 0 := Nat.eq_zero_of_not_pos fun hpos => by
        obtain ⟨i, e, hm, h4⟩ := cnt_pos.1 hpos
        refine hno i e ?_ h4
        have hi : i ≠ d.length := fun e1 => by
          rw [e1, nd_gone (by omega)] at hm
          cases hm
        rw [hn3, if_neg hi]
        split
        · next e1 => rw [e1] at hm; exact (mem_entPut hhas _).2 (.inl hm)
        · exact hm
      refine hcl j ⟨?_, by unfold links; rw [if_neg hj1, hcd], hh j⟩
      unfold has at h1 ⊢
      rw [hn3, if_neg hj] at h1
      split at h1
      · next e1 => rw [e1]; exact h1
      · exact h1
  have hres : relD (enterTo d1 at' n.name d.length) d.length = relTo (enterTo d1 at' n.name d.length) d.length := by
    unfold relD
    rw [if_pos hr, gc_same hng]
  rw [hres]
  refine ⟨?_, hn3⟩
  unfold relTo
  rw [upd_length, hl2]

end Go.Proofs.YtfomkkoecelakaaDoor

/-
  Layer 5, plain: what holds of each disk that is built. No program in sight.
-/
set_option maxRecDepth 100000
namespace Go.Proofs.YtfomkkoecelakaaDoor

/-- A disk that is built, behind k nodes of u bytes. -/
structure Bi (s : Nds × List Int) (k u : Nat) : Prop where
  bt : Bt s k
  inv : DInv s.1
  clean : NoGarb s.1
  used : used s.1 ≤ u

theorem bi_new : Bi (newD, [1]) 0 0 := ⟨bt_new, inv_new, noGarb_new, Nat.le_of_eq used_new⟩

theorem enterErr_parts {d : Nds} {room i k : Int} {name : ByteArray} (h : enterErr d room i name k = 0) : folderErr d i = 0 ∧ has d k ∧ ((nd d k).kind = 2 → links d k = 0) ∧ putErr (nd d i).ents name = 0 := by
  obtain ⟨h1, h2⟩ := enterErr_folder h
  refine ⟨h1, ?_, ?_, h2⟩
  · intro h0
    unfold enterErr at h
    rw [if_neg (by rw [h1]; simp), if_pos h0] at h
    cases h
  · intro hk
    unfold enterErr at h
    rw [if_neg (by rw [h1]; simp)] at h
    split at h; · cases h
    split at h; · cases h
    · next e => exact Nat.eq_zero_of_not_pos fun hp => e ⟨hk, hp⟩

theorem newNd_ok {d : Nds} {room kind m : Int} {s : ByteArray} (h : makeErr d room kind m s = 0) : NdOk (newNd kind m s) := by
  obtain ⟨k1, k2⟩ := makeErr_kind h
  unfold makeErr at h
  rw [if_neg (by omega), if_neg (by omega)] at h
  split at h; · cases h
  next h2 =>
  split at h; · cases h
  next hm =>
  split at h; · cases h
  next hs =>
  have hmo : 0 ≤ m ∧ m ≤ 4095 := by simpa [okMode] using hm
  have hd : kind = 2 → s = ⟨#[]⟩ := fun e => by
    have h0 : s.size = 0 := Classical.not_not.1 fun h => h2 ⟨e, h⟩
    exact eq_of_data (List.eq_nil_of_length_eq_zero (by simpa using h0))
  exact ⟨by show 0 ≤ kind; omega, k2, fun e => by have e : kind = 0 := e; omega, hmo.1, hmo.2, (by show (0 : Int) ≤ 1; decide), by show s.size ≤ _; omega, hd, fun _ => rfl, List.Pairwise.nil, (fun _ h => by cases h)⟩

theorem bi_one {s : Nds × List Int} {k u : Nat} (h : Bi s k u) (n : N5) : Bi (bOne s n) (k + 1) (u + n.data.size + n.name.size) := by
  have hb := bt_one h.bt h.inv n
  have hI := h.inv
  have hcl := h.clean
  have hu := h.used
  have hdirs := h.bt.dirs
  have hsome := h.bt.some
  obtain ⟨d, l⟩ := s
  simp only at hI hcl hu hdirs hsome
  suffices hh : DInv (bOne (d, l) n).1 ∧ NoGarb (bOne (d, l) n).1 ∧ used (bOne (d, l) n).1 ≤ u + n.data.size + n.name.size from ⟨hb, hh.1, hh.2.1, hh.2.2⟩
  clear hb
  unfold bOne
  split
  · exact ⟨hI, hcl, by simp only; omega⟩
  next he =>
  have he := Classical.not_not.1 he
  simp only at he ⊢
  have hok := newNd_ok he
  obtain ⟨k1, k2⟩ := makeErr_kind he
  have hk0 : (newNd n.kind n.mode n.data).kind ≠ 0 := by show n.kind ≠ 0; omega
  have hI1 := hI.add hk0 hok rfl
  have hu1 : used (d ++ [newNd n.kind n.mode n.data]) = used d + n.data.size := by rw [used_append]; rfl
  have hlk : links (d ++ [newNd n.kind n.mode n.data]) d.length = 0 := by
    rw [links_append rfl]
    have := cnt_none hI (not_has_length d)
    have ht := hI.two
    unfold links
    rw [this, if_neg (by omega)]
  have hh1 : has (d ++ [newNd n.kind n.mode n.data]) d.length := by unfold has; rw [nd_append, if_pos rfl]; exact hk0
  have hn1 : nd (d ++ [newNd n.kind n.mode n.data]) d.length = newNd n.kind n.mode n.data := by rw [nd_append, if_pos rfl]
  have hat := hdirs _ (bAt_mem hsome n.at')
  generalize bAt l n.at' = at' at *
  have hab : ¬ Above (d ++ [newNd n.kind n.mode n.data]) d.length at' := fresh_above rfl (by omega)
  have hcl1 : NoGarb (d ++ [newNd n.kind n.mode n.data]) := noGarb_append hcl rfl (by show (1 : Int) ≠ 0; decide)
  generalize hd1 : d ++ [newNd n.kind n.mode n.data] = d1 at *
  have h2 : DInv (enterD d1 room5 at' n.name d.length) ∧ used (enterD d1 room5 at' n.name d.length) ≤ used d1 + n.name.size := by
    unfold enterD
    split
    · next e =>
      obtain ⟨e1, e2, e3, e4⟩ := enterErr_parts e
      have hf := folderErr_has e1
      exact ⟨enter_inv hI1 hf.2 e2 e3 e4 (fun _ => hab), Nat.le_of_eq (enter_used hf.1 e4)⟩
    · exact ⟨hI1, by omega⟩
  obtain ⟨hI2, hu2⟩ := h2
  have hnd2 := fun j => enterD_nd (d := d1) (room := room5) (i := at') (k := d.length) (name := n.name) j
  generalize hd2 : enterD d1 room5 at' n.name d.length = d2 at *
  have hh2 : has d2 d.length := by unfold has; rw [(hnd2 _).2.2, hn1]; exact hk0
  have ho2 : (nd d2 d.length).holds = 1 := by rw [(hnd2 _).1, hn1]; rfl
  have hr : relErr d2 d.length = 0 := relErr_ok hh2 (by rw [ho2]; decide)
  unfold relD
  rw [if_pos hr]
  have hok2 := hI2.node d.length
  have hok3 : NdOk ((nd d2 d.length).setHolds ((nd d2 d.length).holds - 1)) :=
    ⟨hok2.kind0, hok2.kind3, fun e => absurd e hh2, hok2.mode0, hok2.mode1, by show (0 : Int) ≤ (nd d2 d.length).holds - 1; omega, hok2.data, hok2.dirs, hok2.flat, hok2.rising, hok2.names⟩
  have hI3 : DInv (relTo d2 d.length) := hI2.upd hh2 hok3 rfl rfl
  have hu3 : used (relTo d2 d.length) = used d2 := by
    have := used_upd (n := (nd d2 d.length).setHolds ((nd d2 d.length).holds - 1)) hh2
    have e : room1 ((nd d2 d.length).setHolds ((nd d2 d.length).holds - 1)) = room1 (nd d2 d.length) := rfl
    unfold relTo
    omega
  have hu4 := (gc_kills (relTo d2 d.length)).used
  exact ⟨hI3.gc, gc_clean _, by omega⟩

theorem builtD_snoc (l : List N5) (n : N5) : builtD (l ++ [n]) = bOne (builtD l) n := by unfold builtD; rw [List.foldl_append]; rfl

def bytes5 : List N5 → Nat
  | [] => 0
  | n :: l => n.data.size + n.name.size + bytes5 l

theorem bytes5_snoc (l : List N5) (n : N5) : bytes5 (l ++ [n]) = bytes5 l + n.data.size + n.name.size := by
  induction l with
  | nil => simp [bytes5]
  | cons x r ih => simp only [List.cons_append, bytes5, ih]; omega

theorem bi_all : ∀ l : List N5, Bi (builtD l) l.length (bytes5 l) := by
  intro l
  have : ∀ k, k ≤ l.length → Bi (builtD (l.take k)) k (bytes5 (l.take k)) := by
    intro k
    induction k with
    | zero => exact fun _ => bi_new
    | succ k ih =>
      intro hk
      rw [List.take_add_one, List.getElem?_eq_getElem (by omega)]
      show Bi (builtD (l.take k ++ [l[k]])) _ (bytes5 (l.take k ++ [l[k]]))
      rw [builtD_snoc, bytes5_snoc]
      exact bi_one (ih (by omega)) _
  have h := this l.length (Nat.le_refl _)
  rwa [List.take_length] at h

/-- A node that is made and entered, by simple tests. -/
theorem enter_go {d : Nds} {l : List Int} {n : N5} {at' : Int} {k u : Nat} (h : Bi (d, l) k u) (hat : bAt l n.at' = at') (hk1 : 1 ≤ n.kind) (hk3 : n.kind ≤ 3) (hm : okMode n.mode = true) (hd : n.kind = 2 → n.data.size = 0) (hz : n.data.size ≤ 5000) (hnz : n.name.size ≤ 255)
    (hn : okName n.name = true) (hf : folderErr d at' = 0) (hno : entHas (nd d at').ents n.name = false) (hk : k ≤ 20000) (hu : u ≤ 1000000) :
    at' ≠ d.length ∧ makeErr d room5 n.kind n.mode n.data = 0 ∧ enterErr (d ++ [newNd n.kind n.mode n.data]) room5 at' n.name d.length = 0 := by
  have hI := h.inv
  have hu' := h.used
  have hms := h.bt.mass
  have hcm := count_le_mass d
  have hlm := mass_ge d
  simp only at hu' hms hI
  have ht := hI.two
  have hfh := folderErr_has hf
  have hr := has_range hfh.1
  have hne : at' ≠ d.length := by omega
  have hcnt : count d ≤ 65535 := by omega
  have he : makeErr d room5 n.kind n.mode n.data = 0 := by
    unfold makeErr
    rw [if_neg (by omega), if_neg (by omega), if_neg (fun h => h.2 (hd h.1)), if_neg (by rw [hm]; simp), if_neg (by omega), if_neg (by omega), if_neg (by unfold room5; omega)]
  refine ⟨hne, he, ?_⟩
  have hn1 : nd (d ++ [newNd n.kind n.mode n.data]) d.length = newNd n.kind n.mode n.data := by rw [nd_append, if_pos rfl]
  have hna : nd (d ++ [newNd n.kind n.mode n.data]) at' = nd d at' := by rw [nd_append, if_neg hne]
  have hlk : links (d ++ [newNd n.kind n.mode n.data]) d.length = 0 := by
    rw [links_append rfl]
    have := cnt_none hI (not_has_length d)
    unfold links
    rw [this, if_neg (by omega)]
  have hu1 : used (d ++ [newNd n.kind n.mode n.data]) = used d + n.data.size := by rw [used_append]; rfl
  have hf1 : folderErr (d ++ [newNd n.kind n.mode n.data]) at' = 0 := by
    unfold folderErr at hf ⊢
    rw [hna]
    exact hf
  unfold enterErr
  rw [if_neg (by rw [hf1]; simp), hn1, hlk, hna, if_neg (by show ¬ n.kind = 0; omega), if_neg (by simp), if_neg (by decide), if_neg (by rw [putErr_zero.2 ⟨hn, hno⟩]; simp), if_neg (by rw [hu1]; unfold room5; omega)]

end Go.Proofs.YtfomkkoecelakaaDoor
