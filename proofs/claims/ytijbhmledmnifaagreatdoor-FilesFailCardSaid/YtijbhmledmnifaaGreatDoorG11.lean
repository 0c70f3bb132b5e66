/-
  Layer 5, plain: the disks that are built node by node. No program in sight.
-/
import Derived.Test.YtijbhmledmnifaaGreatDoorG09
import Derived.Test.YtijbhmledmnifaaGreatDoorG07
import Derived.Test.YtijbhmledmnifaaGreatDoorG04
import Derived.Test.YtijbhmledmnifaaGreatDoorG08

set_option linter.unusedSimpArgs false
set_option linter.unusedVariables false

set_option maxRecDepth 100000
namespace Go.Proofs.YtijbhmledmnifaaGreatDoor
structure N5 where
  at' : Int
  name : ByteArray
  kind : Int
  mode : Int
  data : ByteArray
theorem Kills.node {d d' : Nds} (h : Kills d d') (i : Int) : nd d' i = nd d i ∨ nd d' i = Nd.gone := by
  induction h with
  | refl => exact .inl rfl
  | step j hj _ ih =>
    rw [nd_kill hj.1] at ih
    split at ih
    · exact .inr (ih.elim id id)
    · exact ih
theorem relErr_ok {d : Nds} {i : Int} (h1 : has d i) (h2 : (nd d i).holds ≠ 0) : relErr d i = 0 := by
  unfold relErr
  rw [if_neg h1, if_neg h2]
theorem makeErr_kind {d : Nds} {room kind m : Int} {s : ByteArray} (h : makeErr d room kind m s = 0) : 1 ≤ kind ∧ kind ≤ 3 := by
  unfold makeErr at h
  split at h; · cases h
  split at h; · cases h
  omega
theorem enterErr_folder {d : Nds} {room i k : Int} {name : ByteArray} (h : enterErr d room i name k = 0) : folderErr d i = 0 ∧ putErr (nd d i).ents name = 0 := by
  unfold enterErr at h
  split at h
  · next e => exact absurd h e
  · next e =>
    refine ⟨Classical.not_not.1 e, ?_⟩
    split at h; · cases h
    split at h; · cases h
    split at h; · cases h
    split at h
    · next e => exact absurd h e
    · next e => exact Classical.not_not.1 e
theorem folderErr_has {d : Nds} {i : Int} (h : folderErr d i = 0) : has d i ∧ (nd d i).kind = 2 := by
  unfold folderErr at h
  split at h; · cases h
  split at h
  · next e1 e2 => exact ⟨e1, e2⟩
  · cases h
theorem fresh_above {d : Nds} {n : Nd} (hn : n.ents = []) {i : Int} (hi : i ≠ d.length) : ¬ Above (d ++ [n]) d.length i := by
  have : ∀ i, Above (d ++ [n]) d.length i → i = d.length := by
    intro i h
    induction h with
    | self => rfl
    | step hp _ ih =>
      obtain ⟨_, e, he, _⟩ := hp
      rw [ih, nd_append, if_pos rfl, hn] at he
      cases he
  exact fun h => hi (this i h)
theorem enterD_len {d : Nds} {room i k : Int} {name : ByteArray} : (enterD d room i name k).length = d.length := by
  unfold enterD
  split
  · unfold enterTo setE; rw [upd_length]
  · rfl
theorem enterD_mass {d : Nds} {room i k : Int} {name : ByteArray} : mass (enterD d room i name k) ≤ mass d + 1 := by
  unfold enterD
  split
  · next h =>
    obtain ⟨h1, h2⟩ := enterErr_folder h
    exact Nat.le_of_eq (enter_mass (folderErr_has h1).1 h2)
  · omega
theorem relD_len (d : Nds) (i : Int) : (relD d i).length = d.length := by
  unfold relD
  split
  · rw [(gc_kills _).length]; unfold relTo; rw [upd_length]
  · rfl
theorem relD_mass {d : Nds} {i : Int} : mass (relD d i) ≤ mass d := by
  unfold relD
  split
  · next h =>
    have hi : has d i := by
      unfold relErr at h
      split at h
      · cases h
      · next e => exact e
    have h1 := (gc_kills (relTo d i)).mass
    have h2 := mass_upd (n := (nd d i).setHolds ((nd d i).holds - 1)) hi
    have h3 : mass1 ((nd d i).setHolds ((nd d i).holds - 1)) ≤ mass1 (nd d i) := by
      unfold mass1; simp only [Nd.setHolds]; omega
    unfold relTo at *
    omega
  · exact Nat.le_refl _
theorem nd_relTo {d : Nds} {i : Int} (hi : has d i) (j : Int) : nd (relTo d i) j = if j = i then (nd d i).setHolds ((nd d i).holds - 1) else nd d j := nd_upd (has_range hi).1 (has_range hi).2 _ _
end Go.Proofs.YtijbhmledmnifaaGreatDoor

/-
  Layer 6, plain: facts of the ways and of what is made. No program in sight.
-/
set_option maxRecDepth 100000
namespace Go.Proofs.YtijbhmledmnifaaGreatDoor
theorem stepR_size (d : Nds) (up : Int → Int) (at' : Int) (x : ByteArray) (follow : Bool) (n : Nat) : (stepR d up at' x follow n).p.name.size ≤ 255 := by
  unfold stepR
  split; · exact Nat.zero_le _
  split; · exact Nat.zero_le _
  split; · exact Nat.zero_le _
  split; · exact Nat.zero_le _
  split; · next h _ => exact Nat.le_of_not_lt h
  split; · next h _ _ => exact Nat.le_of_not_lt h
  split; · exact Nat.zero_le _
  next h _ _ _ => exact Nat.le_of_not_lt h
theorem scan_size (d : Nds) (up : Int → Int) (slash follow : Bool) : ∀ (l : List ByteArray) (at' : Int) (n : Nat) (p q : Plc), p.name.size ≤ 255 → scan d up slash follow l at' n p = .fin q → q.name.size ≤ 255
  | [], _, _, p, q, hp, h => by
    unfold scan at h
    cases h
    exact hp
  | x :: r, at', n, p, q, hp, h => by
    unfold scan at h
    simp only at h
    split at h; · cases h
    split at h; · cases h
    split at h; · cases h
    exact scan_size d up slash follow r _ _ _ q (stepR_size _ _ _ _ _ _) h
theorem findR_size (d : Nds) (up : Int → Int) (follow : Bool) : ∀ (fuel : Nat) (from' : Int) (s : ByteArray) (n : Nat), (findR d up follow fuel from' s n).1.name.size ≤ 255
  | 0, _, _, _ => by unfold findR; decide
  | fuel + 1, from', s, n => by
    unfold findR
    split; · exact Nat.zero_le _
    split; · exact Nat.zero_le _
    split
    · next p hp =>
      have := scan_size d up (endS s) follow _ _ _ _ _ (Nat.zero_le _) hp
      unfold endR
      split; · exact this
      split; · exact Nat.zero_le _
      exact this
    · exact Nat.zero_le _
    · exact findR_size d up follow fuel _ _ _
theorem fndR_size (d : Nds) (at' : Int) (s : ByteArray) (follow : Bool) : (fndR d at' s follow).1.name.size ≤ 255 := findR_size _ _ _ _ _ _ _
theorem thrR_size (d : Nds) (at' : Int) (s : ByteArray) (follow : Bool) : (thrR d at' s follow).1.name.size ≤ 255 := by
  unfold thrR thereR
  split; · exact Nat.zero_le _
  split; · exact Nat.zero_le _
  exact fndR_size _ _ _ _
theorem thrR_ok {d : Nds} {at' : Int} {s : ByteArray} {follow : Bool} (h : (thrR d at' s follow).2 = 0) : thrR d at' s follow = fndR d at' s follow ∧ (fndR d at' s follow).1.node ≠ 0 := by
  unfold thrR thereR at *
  split at h
  · next h1 => exact absurd h h1
  · next h1 =>
    rw [if_neg h1]
    split at h
    · cases h
    · next h2 => rw [if_neg h2]; exact ⟨rfl, h2⟩
theorem freeR_ok {d : Nds} {at' : Int} {s : ByteArray} {slash : Bool} {p : Plc} (h : freeR d at' s slash = (p, 0)) : has d p.dir ∧ p.name.size ≤ 255 ∧ p.node = 0 ∧ p = (fndR d at' s false).1 ∧ mayE d p.dir 128 = 0 := by
  have hsz := fndR_size d at' s false
  unfold freeR at h
  split at h
  · next h1 => rw [Prod.mk.injEq] at h; exact absurd h.2 h1
  split at h
  · rw [Prod.mk.injEq] at h; exact absurd h.2 (by decide)
  split at h
  · rw [Prod.mk.injEq] at h; exact absurd h.2 (by decide)
  next h1 h2 h3 =>
  rw [Prod.mk.injEq] at h
  obtain ⟨rfl, h4⟩ := h
  refine ⟨?_, hsz, Classical.not_not.1 h2, rfl, h4⟩
  unfold mayE at h4
  split at h4
  · cases h4
  · next hh => exact Classical.not_not.1 hh
theorem makeTo_ok {d : Nds} {room kind m : Int} {s : ByteArray} (h : makeErr d room kind m s = 0) : makeTo d room kind m s = d ++ [newNd kind m s] ∧ makeId d room kind m s = d.length := by
  unfold makeTo makeId
  rw [if_pos h, if_pos h]
  exact ⟨rfl, rfl⟩
theorem mass_made (d : Nds) (kind m : Int) (s : ByteArray) : mass (d ++ [newNd kind m s]) = mass d + 2 := by
  rw [mass_append]
  rfl
theorem made_above {d : Nds} {kind m : Int} {s : ByteArray} {i : Int} (hi : has d i) : ¬ Above (d ++ [newNd kind m s]) d.length i := fresh_above rfl (fun e => by
  have := (has_range hi)
  omega)
end Go.Proofs.YtijbhmledmnifaaGreatDoor

/-
  Layer 6, plain: Open, with the call that may fail. No program in sight.
-/
set_option maxRecDepth 100000
namespace Go.Proofs.YtijbhmledmnifaaGreatDoor
noncomputable def openF (calls fail : Int) (d : Nds) (room at' mask : Int) (s : ByteArray) (flags m : Int) : Nds × Int × Int :=
  if openC flags = true ∧ callE calls fail ≠ 0 then (d, 0, callE calls fail) else openR d room at' mask s flags m
def openN (calls flags : Int) : Int := if openC flags = true then calls + 1 else calls
end Go.Proofs.YtijbhmledmnifaaGreatDoor

/-
  Layer 6, plain: no directory is held, whatever files do; what that says of where directories lie. No program in sight.
-/
set_option maxRecDepth 100000
namespace Go.Proofs.YtijbhmledmnifaaGreatDoor
def NH (d : Nds) : Prop := ∀ i, (nd d i).kind = 2 → (nd d i).holds = 0
def NHx (d : Nds) (k : Int) : Prop := ∀ i, i ≠ k → (nd d i).kind = 2 → (nd d i).holds = 0
section
variable {d d' : Nds} {room : Int}
theorem NHx.all {k : Int} (h : NHx d k) (hk : (nd d k).kind = 2 → (nd d k).holds = 0) : NH d := fun i hi => by
  by_cases e : i = k
  · subst e; exact hk hi
  · exact h i e hi
theorem nh_new : NH newD := fun i hi => by
  rw [nd_new] at hi ⊢
  split at hi
  · next e => rw [if_pos e]; rfl
  · cases hi
def SameKH (d d' : Nds) : Prop := ∀ j, (nd d' j).kind = 0 ∨ ((nd d' j).kind = (nd d j).kind ∧ (nd d' j).holds = (nd d j).holds)
theorem SameKH.refl (d : Nds) : SameKH d d := fun _ => .inr ⟨rfl, rfl⟩
theorem NHx.same {k : Int} (h : NHx d k) (hs : SameKH d d') : NHx d' k := fun i hi hk => by
  rcases hs i with e | ⟨e1, e2⟩
  · rw [e] at hk; cases hk
  · rw [e2]; exact h i hi (by rw [← e1]; exact hk)
theorem NH.same (h : NH d) (hs : SameKH d d') : NH d' := fun i hk => by
  rcases hs i with e | ⟨e1, e2⟩
  · rw [e] at hk; cases hk
  · rw [e2]; exact h i (by rw [← e1]; exact hk)
theorem same_gc (d : Nds) : SameKH d (gc d) := fun j => by
  by_cases h : has (gc d) j
  · obtain ⟨_, e⟩ := (gc_kills d).was h
    exact .inr ⟨by rw [e], by rw [e]⟩
  · exact .inl (not_has h)
theorem SameKH.trans {a b c : Nds} (h : SameKH a b) (k : SameKH b c) : SameKH a c := fun j => by
  rcases k j with e | ⟨e1, e2⟩
  · exact .inl e
  · rcases h j with f | ⟨f1, f2⟩
    · exact .inl (by rw [e1, f])
    · exact .inr ⟨by rw [e1, f1], by rw [e2, f2]⟩
theorem same_upd {i : Int} {n : Nd} (hi : has d i) (h1 : n.kind = (nd d i).kind) (h2 : n.holds = (nd d i).holds) : SameKH d (upd d i n) := fun j => by
  rw [nd_upd (has_range hi).1 (has_range hi).2]
  split
  · next e => subst e; exact .inr ⟨h1, h2⟩
  · exact .inr ⟨rfl, rfl⟩
theorem same_setE {i : Int} (hi : has d i) (es : List Ent) : SameKH d (setE d i es) := same_upd hi rfl rfl
theorem same_enter (i : Int) (name : ByteArray) (k : Int) : SameKH d (enterD d room i name k) := by
  unfold enterD
  split
  · next he => exact same_setE (folderErr_has (enterErr_folder he).1).1 _
  · exact SameKH.refl _
theorem same_leave (i : Int) (name : ByteArray) : SameKH d (leaveTo d i name) := by
  unfold leaveTo
  split
  · next he =>
    have hl : lookErr d i name = 0 := by
      by_cases e : lookErr d i name = 0
      · exact e
      · unfold leaveErr at he
        rw [if_pos e] at he
        exact he
    have hf := (lookErr_zero hl).1
    exact (same_setE (folderErr_has hf).1 _).trans (same_gc _)
  · exact SameKH.refl _
theorem same_chmod (i m : Int) : SameKH d (chmodD d i m) := by
  unfold chmodD
  split
  · next he =>
    have hi : has d i := fun e => by unfold chmodErr at he; first | (rw [if_pos e] at he; cases he) | (simp [e] at he)
    exact same_upd hi rfl rfl
  · exact SameKH.refl _
theorem nh_made (h : NH d) (p : Plc) (kind m : Int) (s : ByteArray) : NH (madeR d room p kind m s).1 := by
  unfold madeR
  split
  · exact h
  · next he =>
    have hk := makeErr_kind (Classical.not_not.1 he)
    unfold entrR
    have h1 : NHx (d ++ [newNd kind m s]) d.length := fun i hi hkk => by
      rw [nd_append, if_neg hi] at hkk ⊢
      exact h i hkk
    have h2 : NHx (enterD (d ++ [newNd kind m s]) room p.dir p.name d.length) d.length := h1.same (same_enter _ _ _)
    have h3 : nd (d ++ [newNd kind m s]) d.length = newNd kind m s := by rw [nd_append, if_pos rfl]
    generalize hd2 : enterD (d ++ [newNd kind m s]) room p.dir p.name d.length = d2 at *
    have h4 : (nd d2 d.length).kind = 0 ∨ ((nd d2 d.length).kind = kind ∧ (nd d2 d.length).holds = 1) := by
      rcases (hd2 ▸ same_enter (d := d ++ [newNd kind m s]) (room := room) p.dir p.name d.length) (d.length : Int) with e | ⟨e1, e2⟩
      · exact .inl e
      · rw [h3] at e1 e2
        exact .inr ⟨e1, e2⟩
    unfold relD
    split
    · next hr =>
      refine NH.same ?_ (same_gc _)
      have hi : has d2 d.length := fun e => by unfold relErr at hr; rw [if_pos e] at hr; cases hr
      intro j hj
      rw [nd_relTo hi] at hj ⊢
      split
      · next e =>
        rcases h4 with e4 | ⟨_, e4⟩
        · exact absurd e4 hi
        · show (nd d2 d.length).holds - 1 = 0
          rw [e4]; rfl
      · next e =>
        rw [if_neg e] at hj
        exact h2 j e hj
    · next hr =>
      refine h2.all fun hk2 => ?_
      rcases h4 with e4 | ⟨_, e4⟩
      · rw [e4] at hk2; cases hk2
      · exfalso
        apply hr
        unfold relErr
        rw [if_neg (by rw [hk2]; decide), if_neg (by rw [e4]; decide)]
theorem nh_mkdir (h : NH d) (at' mask : Int) (s : ByteArray) (m : Int) : NH (mkdirR d room at' mask s m).1 := by
  unfold mkdirR
  split
  · exact h
  · exact nh_made h _ _ _ _
theorem nh_sym (h : NH d) (at' : Int) (t s : ByteArray) : NH (symR d room at' t s).1 := by
  unfold symR
  split
  · exact h
  · split
    · exact h
    · exact nh_made h _ _ _ _
theorem nh_link (h : NH d) (at' : Int) (o s : ByteArray) : NH (linkR d room at' o s).1 := by
  unfold linkR
  split
  · exact h
  · split
    · exact h
    · split
      · exact h
      · exact h.same (same_enter _ _ _)
theorem nh_rem (h : NH d) (at' : Int) (s : ByteArray) (folder : Bool) : NH (remR d at' s folder).1 := by
  unfold remR
  split
  · exact h
  · exact h.same (same_leave _ _)
theorem same_move (f : Int) (name : ByteArray) (t : Int) (other : ByteArray) : SameKH d (moveD d room f name t other) := by
  unfold moveD
  split
  · next he =>
    have hm := he.1
    have hl : lookErr d f name = 0 := by
      by_cases e : lookErr d f name = 0
      · exact e
      · unfold moveErr at hm
        rw [if_pos e] at hm
        exact hm
    have hft : folderErr d t = 0 := by
      by_cases e : folderErr d t = 0
      · exact e
      · unfold moveErr at hm
        rw [if_neg (fun h => h hl), if_pos e] at hm
        exact hm
    have hf := (folderErr_has (lookErr_zero hl).1).1
    have ht := (folderErr_has hft).1
    have h1 : SameKH d (moveMid d t other (lookOf d f name)) := same_setE ht _
    have h2 : Go.Proofs.YtijbhmledmnifaaGreatDoor.has (moveMid d t other (lookOf d f name)) f := (has_setE ht _ f).2 hf
    exact (h1.trans (same_setE h2 _)).trans (same_gc _)
  · exact SameKH.refl _
theorem nh_ren (h : NH d) (at' : Int) (a b : ByteArray) : NH (renR d room at' a b).1 := by
  unfold renR
  repeat (first | exact h | exact h.same (same_move _ _ _ _) | split)
theorem nh_chm (h : NH d) (at' : Int) (s : ByteArray) (m : Int) : NH (chmR d at' s m).1 := by
  unfold chmR
  split
  · exact h
  · exact h.same (same_chmod _ _)
theorem nh_up (h : NH d) (hI : DInv d) (hcl : NoGarb d): ∀ i u, folderErr d i = 0 → UpIs d i u → upC d i = u := by
  intro i u hf hu
  have hk : (nd d i).kind = 2 := by
    unfold folderErr at hf
    by_cases e : (nd d i).kind = 0
    · rw [if_pos e] at hf; cases hf
    rw [if_neg e] at hf
    by_cases e2 : (nd d i).kind = 2
    · exact e2
    · rw [if_neg e2] at hf; cases hf
  by_cases h1 : i = 1
  · subst h1
    rcases hu with ⟨_, rfl⟩ | ⟨e, he, h2⟩
    · unfold upC; rw [if_pos rfl]
    · exact absurd h2 (hI.tgt u e he).2
  rcases hu with ⟨hc, _⟩ | ⟨e, he, h2⟩
  · exfalso
    refine hcl i ⟨?_, ?_, h i hk⟩
    · unfold has; rw [hk]; decide
    · unfold links; rw [if_neg h1, hc]
  · exact upC_par hI h1 ⟨hk, e, he, h2⟩ (fun a b => hI.par_one a b)
end
end Go.Proofs.YtijbhmledmnifaaGreatDoor

/-
  Layer 5, plain: a node that is built in full. No program in sight.
-/
set_option maxRecDepth 100000
namespace Go.Proofs.YtijbhmledmnifaaGreatDoor
end Go.Proofs.YtijbhmledmnifaaGreatDoor

/-
  Layer 5, plain: what holds of each disk that is built. No program in sight.
-/
set_option maxRecDepth 100000
namespace Go.Proofs.YtijbhmledmnifaaGreatDoor
theorem enterErr_parts {d : Nds} {room i k : Int} {name : ByteArray} (h : enterErr d room i name k = 0) : folderErr d i = 0 ∧ has d k ∧ ((nd d k).kind = 2 → links d k = 0) ∧ putErr (nd d i).ents name = 0 := by
  obtain ⟨h1, h2⟩ := enterErr_folder h
  refine ⟨h1, ?_, ?_, h2⟩
  · intro h0
    unfold enterErr at h
    rw [if_neg (by rw [h1]; simp), if_pos h0] at h
    cases h
  · intro hk
    unfold enterErr at h
    rw [if_neg (by rw [h1]; simp)] at h
    split at h; · cases h
    split at h; · cases h
    · next e => exact Nat.eq_zero_of_not_pos fun hp => e ⟨hk, hp⟩
theorem newNd_ok {d : Nds} {room kind m : Int} {s : ByteArray} (h : makeErr d room kind m s = 0) : NdOk (newNd kind m s) := by
  obtain ⟨k1, k2⟩ := makeErr_kind h
  unfold makeErr at h
  rw [if_neg (by omega), if_neg (by omega)] at h
  split at h; · cases h
  next h2 =>
  split at h; · cases h
  next hm =>
  split at h; · cases h
  next hs =>
  have hmo : 0 ≤ m ∧ m ≤ 4095 := by simpa [okMode] using hm
  have hd : kind = 2 → s = ⟨#[]⟩ := fun e => by
    have h0 : s.size = 0 := Classical.not_not.1 fun h => h2 ⟨e, h⟩
    exact eq_of_data (List.eq_nil_of_length_eq_zero (by simpa using h0))
  exact ⟨by show 0 ≤ kind; omega, k2, fun e => by have e : kind = 0 := e; omega, hmo.1, hmo.2, (by show (0 : Int) ≤ 1; decide), by show s.size ≤ _; omega, hd, fun _ => rfl, List.Pairwise.nil, (fun _ h => by cases h)⟩
end Go.Proofs.YtijbhmledmnifaaGreatDoor

/-
  Layer 6, plain: how great a disk may become. No program in sight.
-/
set_option maxRecDepth 100000
namespace Go.Proofs.YtijbhmledmnifaaGreatDoor
theorem gc_massM (d : Nds) : mass (gc d) ≤ mass d := (gc_kills d).mass
theorem upd_mass0 {d : Nds} {i : Int} {n : Nd} (hi : has d i) (hm : mass1 n ≤ mass1 (nd d i)) : mass (upd d i n) ≤ mass d := by
  have := mass_upd (n := n) hi
  omega
section
variable {d : Nds} {room : Int}
theorem chmodD_mass (i m : Int) : mass (chmodD d i m) ≤ mass d := by
  unfold chmodD
  split
  · next he =>
    have hi : has d i := by
      unfold chmodErr at he
      split at he
      · cases he
      · next h => exact h
    exact upd_mass0 (n := (nd d i).setMode m) hi (Nat.le_refl _)
  · exact Nat.le_refl _
theorem leaveTo_mass (hI : DInv d) (i : Int) (name : ByteArray) : mass (leaveTo d i name) ≤ mass d := by
  unfold leaveTo
  split
  · next he =>
    have h0 : lookErr d i name = 0 := by
      unfold leaveErr at he
      split at he
      · next e => exact absurd he e
      · next e => exact Classical.not_not.1 e
    obtain ⟨f0, hg⟩ := lookErr_zero h0
    have := drop_mass hI (folderErr_zero f0).1 hg
    have := gc_massM (dropTo d i name)
    omega
  · exact Nat.le_refl _
theorem madeR_mass (p : Plc) (kind m : Int) (s : ByteArray) : mass (madeR d room p kind m s).1 ≤ mass d + 3 := by
  unfold madeR entrR
  split
  · exact Nat.le_add_right _ _
  · have h1 := relD_mass (d := enterD (d ++ [newNd kind m s]) room p.dir p.name d.length) (i := d.length)
    have h2 := enterD_mass (d := d ++ [newNd kind m s]) (room := room) (i := p.dir) (k := d.length) (name := p.name)
    rw [mass_made] at h2
    exact Nat.le_trans h1 h2
theorem mkdirR_mass (at' mask : Int) (s : ByteArray) (m : Int) : mass (mkdirR d room at' mask s m).1 ≤ mass d + 3 := by
  unfold mkdirR
  split
  · exact Nat.le_add_right _ _
  · exact madeR_mass _ _ _ _
theorem symR_mass (at' : Int) (t s : ByteArray) : mass (symR d room at' t s).1 ≤ mass d + 3 := by
  unfold symR
  split
  · exact Nat.le_add_right _ _
  split
  · exact Nat.le_add_right _ _
  · exact madeR_mass _ _ _ _
theorem linkR_mass (at' : Int) (o s : ByteArray) : mass (linkR d room at' o s).1 ≤ mass d + 1 := by
  unfold linkR
  split
  · exact Nat.le_add_right _ _
  split
  · exact Nat.le_add_right _ _
  split
  · exact Nat.le_add_right _ _
  · exact enterD_mass
theorem remR_mass (hI : DInv d) (at' : Int) (s : ByteArray) (folder : Bool) : mass (remR d at' s folder).1 ≤ mass d := by
  unfold remR
  split
  · exact Nat.le_refl _
  · exact leaveTo_mass hI _ _
theorem chmR_mass (at' : Int) (s : ByteArray) (m : Int) : mass (chmR d at' s m).1 ≤ mass d := by
  unfold chmR
  split
  · exact Nat.le_refl _
  · exact chmodD_mass _ _
end
end Go.Proofs.YtijbhmledmnifaaGreatDoor

/-
  Layer 6, plain: what lies between Make and the end, as the reference goes. No program in sight.
-/
set_option maxRecDepth 100000
namespace Go.Proofs.YtijbhmledmnifaaGreatDoor
section
variable {d : Nds} {room kind m : Int} {s : ByteArray}
theorem mid_make (hI : DInv d) (hcl : NoGarb d) (he : makeErr d room kind m s = 0) : DInv (d ++ [newNd kind m s]) ∧ NoGarb (d ++ [newNd kind m s]) ∧ mass (d ++ [newNd kind m s]) ≤ mass d + 2 := by
  have hok := newNd_ok he
  obtain ⟨k1, k2⟩ := makeErr_kind he
  have hk0 : (newNd kind m s).kind ≠ 0 := by show kind ≠ 0; omega
  refine ⟨hI.add hk0 hok rfl, noGarb_append hcl rfl (by show (1 : Int) ≠ 0; decide), ?_⟩
  exact Nat.le_of_eq (mass_made d kind m s)
theorem mid_enter (hI : DInv d) (hcl : NoGarb d) (he : makeErr d room kind m s = 0) {i : Int} (hi : i ≠ d.length) (name : ByteArray) :
    DInv (enterD (d ++ [newNd kind m s]) room i name d.length) ∧ NoGarb (enterD (d ++ [newNd kind m s]) room i name d.length) ∧ mass (enterD (d ++ [newNd kind m s]) room i name d.length) ≤ mass d + 3 := by
  obtain ⟨hI1, hcl1, hm1⟩ := mid_make hI hcl he
  have hab : ¬ Above (d ++ [newNd kind m s]) d.length i := fresh_above rfl (by omega)
  have hms := enterD_mass (d := d ++ [newNd kind m s]) (room := room) (i := i) (name := name) (k := d.length)
  generalize d ++ [newNd kind m s] = d1 at *
  unfold enterD at hms ⊢
  split
  · next e =>
    rw [if_pos e] at hms
    obtain ⟨e1, e2, e3, e4⟩ := enterErr_parts e
    have hf := folderErr_has e1
    refine ⟨enter_inv hI1 hf.2 e2 e3 e4 (fun _ => hab), ?_, by omega⟩
    rintro j ⟨h1, h2, h3⟩
    have hkk : ∀ j, (nd (enterTo d1 i name d.length) j).kind = (nd d1 j).kind ∧ (nd (enterTo d1 i name d.length) j).holds = (nd d1 j).holds := fun j => by
      unfold enterTo
      rw [nd_setE hf.1]
      split
      · next e => subst e; exact ⟨rfl, rfl⟩
      · exact ⟨rfl, rfl⟩
    have hl := enter_links (k := (d.length : Int)) hf.1 e4 j
    refine hcl1 j ⟨?_, by omega, by rw [← (hkk j).2]; exact h3⟩
    unfold has at h1 ⊢
    rw [← (hkk j).1]
    exact h1
  · exact ⟨hI1, hcl1, by omega⟩
end
end Go.Proofs.YtijbhmledmnifaaGreatDoor

/-
  Contracts of the reference for layer 6: made.
-/
set_option maxRecDepth 100000
set_option maxHeartbeats 8000000
namespace Go.Proofs.YtijbhmledmnifaaGreatDoor
open Go Go.RowKit
def NI (S : Nat → Prop) (L : List Nat) (g : Nat) : Prop := S g ∧ ∀ x ∈ L, g ≠ x
theorem NI.new {S : Nat → Prop} {L : List Nat} {w w' : World} (hS : ∀ g, w.heap.size ≤ g → S g) (k : Keeps NoB w w') (hL : ∀ x ∈ L, x < w'.heap.size) : ∀ g, w'.heap.size ≤ g → NI S L g := fun g hg =>
  ⟨hS g (Nat.le_trans k.size hg), fun x hx e => by have := hL x hx; omega⟩
def F6To (S : Nat → Prop) (w : World) (X : Nds × Int) (room calls fail : Int) : Ending → World → Prop := fun e w' =>
  ∃ p' c', e = .returned (.tuple #[fV p' c' X.1.length room calls fail, .int .i64 X.2]) ∧ RefAt S w' p' c' X.1 ∧ Keeps NoB w w'
section
variable {S : Nat → Prop} {w wx wy : World} {p : Option Addr} {c : Nat} {d : Nds} {room calls fail : Int} {L : List Nat}
theorem RefAt.drop (h : RefAt (NI S L) w p c d) : RefAt S w p c d := h.keepS (Keeps.refl NoB w) (fun _ _ _ h => h) (fun g hg _ => hg.1)
theorem RefAt.more (h : RefAt (NI S L) w p c d) (k : Keeps NoB w wx) (b : Nat) (hb : w.heap.size ≤ b) : RefAt (NI S (b :: L)) wx p c d :=
  h.keepS k (fun _ _ _ h => h) (fun g hg hl => ⟨hg.1, fun x hx e => by
    rcases List.mem_cons.1 hx with rfl | hx
    · omega
    · exact hg.2 x hx e⟩)
theorem RefAt.put {b : Nat} (h : RefAt (NI S L) w p c d) (k : Keeps (fun g => g = b) w wx) (hb : b ∈ L) : RefAt (NI S L) wx p c d := h.keepS k (fun g hg _ e => hg.2 b hb e) (fun _ hg _ => hg)
theorem RefAt.first (h : RefAt S w p c d) (k : Keeps NoB w wx) (hL : ∀ x ∈ L, w.heap.size ≤ x) : RefAt (NI S L) wx p c d := h.keepS k (fun _ _ _ h => h) (fun g hg hl => ⟨hg, fun x hx e => by have := hL x hx; omega⟩)
theorem hold_rel (d : Nds) (i : Int) : holdErr d i (-1) = relErr d i := by
  unfold holdErr relErr has
  by_cases hi : (nd d i).kind = 0
  · rw [if_pos hi, if_neg (fun h => h.1 hi)]
  · by_cases hh : (nd d i).holds = 0
    · rw [if_neg hi, if_pos hh, if_neg (fun h => h.2.elim (by decide) (fun h => h hh))]
    · rw [if_neg hi, if_neg hh, if_pos ⟨hi, .inr hh⟩]
theorem r6made_any (h : RefAt S w p c d) (hS : ∀ g, w.heap.size ≤ g → S g) (hI : DInv d) (hcl : NoGarb d) (hms : mass d + 4 ≤ 2147483648) (P : Plc) (hP : P.dir ≠ d.length) (hPn : P.name.size ≤ 255) (kind m : Int) (s : ByteArray) (hsz : s.size ≤ 4294967296) :
    Calls Tryz.prog 107 #[fV p c d.length room calls fail, .agg #[.int .i64 P.node, .int .i64 P.dir, .string P.name], .int .i64 kind, .int .i64 m, .string s] w (F6To S w (madeR d room P kind m s) room calls fail) := by
  obtain ⟨pn, pd, pm⟩ := P
  simp only at hP hPn ⊢
  have hsm : smallD d := by unfold smallD; omega
  have hcap := h.cap
  have hmax := h.max
  unfold maxLen at hmax
  have HH := Lib.hid h
  have HS := Lib.hid hS
  unfold fV
  obtain ⟨X, hX⟩ : ∃ X, madeR d room ⟨pn, pd, pm⟩ kind m s = X := ⟨_, rfl⟩
  rw [hX]
  replace hX := Lib.hid hX
  go_enter Tryz.func107, Tryz.ntmps107
  go_upto_region 1 with fail
  have HF := Lib.hid (F6.new w (.slice p d.length c) room calls fail #[.int .i64 pn, .int .i64 pd, .string pm] #[.slice none 0 0, .int .i64 0, .int .i64 0, .int .i64 0] 37 129 37)
  generalize ((w.alloc (.cells #[.slice p d.length c, .int .i64 room, .int .i64 calls, .int .i64 fail] 37)).alloc (.cells #[.int .i64 pn, .int .i64 pd, .string pm] 129)).alloc (.cells #[.slice none 0 0, .int .i64 0, .int .i64 0, .int .i64 0] 37) = w0 at *
  have HR0 := Lib.hid (h.first (L := [w.heap.size, w.heap.size + 1, w.heap.size + 1 + 1]) HF.out.k (by simp; omega))
  have HMk := Lib.hid (r4make_any (room := room) HR0.out (NI.new hS HF.out.k (by have := HF.out.b2.lt; simp; omega)) hI hsm kind m s hsz)
  clear h hS
  have f0 := HF.out.b0.cell 0 _ rfl; have f1 := HF.out.b0.cell 1 _ rfl; have f2 := HF.out.b0.cell 2 _ rfl; have f3 := HF.out.b0.cell 3 _ rfl; have u0 := HF.out.b1.cell 0 _ rfl; have u1 := HF.out.b1.cell 1 _ rfl; have u2 := HF.out.b1.cell 2 _ rfl; have rz0 := HF.out.b2.cell 0 _ rfl; have rz1 := HF.out.b2.cell 1 _ rfl; have rz2 := HF.out.b2.cell 2 _ rfl; have rz3 := HF.out.b2.cell 3 _ rfl; have fl0 := HF.out.b0.lt; have fl2 := HF.out.b2.lt; have ff0 := HF.out.b0.fz; have ff2 := HF.out.b2.fz
  unfold MTo refV at HMk
  by_cases he : makeErr d room kind m s = 0
  case neg =>
    have hb : (makeErr d room kind m s != 0) = true := by simpa using he
    have e1 : makeTo d room kind m s = d := by unfold makeTo; rw [if_neg he]
    have e2 : madeR d room ⟨pn, pd, pm⟩ kind m s = (d, makeErr d room kind m s) := by unfold madeR; rw [if_pos he]
    rw [e1] at HMk
    obtain rfl : X = (d, makeErr d room kind m s) := hX.out.symm.trans e2
    clear e1 e2 he hX
    generalize makeErr d room kind m s = ee at *
    generalize makeId d room kind m s = ii at *
    go_upto_region 2 with (go_at_call 166; go_loud (refine HMk.out.mono ?_); rintro e w1 ⟨p1, c1, rfl, hr1, hkn⟩; (clear f0 f1 f2 f3 u0 u1 u2 rz0 rz1 rz2 rz3 fl0 fl2 ff0 ff2; replace HF := Lib.hid (HF.out.on hkn); have f0 := HF.out.b0.cell 0 _ rfl; have f1 := HF.out.b0.cell 1 _ rfl; have f2 := HF.out.b0.cell 2 _ rfl; have f3 := HF.out.b0.cell 3 _ rfl; have u0 := HF.out.b1.cell 0 _ rfl; have u1 := HF.out.b1.cell 1 _ rfl; have u2 := HF.out.b1.cell 2 _ rfl; have rz0 := HF.out.b2.cell 0 _ rfl; have rz1 := HF.out.b2.cell 1 _ rfl; have rz2 := HF.out.b2.cell 2 _ rfl; have rz3 := HF.out.b2.cell 3 _ rfl; have fl0 := HF.out.b0.lt; have fl2 := HF.out.b2.lt; have ff0 := HF.out.b0.fz; have ff2 := HF.out.b2.fz))
    replace HF := Lib.hid (HF.out.on ((Keeps.refl NoB w1).alloc (.cells #[.slice p1 d.length c1, .int .i64 room] 35)))
    clear f0 f1 f2 f3 u0 u1 u2 rz0 rz1 rz2 rz3 fl0 fl2 ff0 ff2
    generalize w1.alloc (.cells #[.slice p1 d.length c1, .int .i64 room] 35) = w2 at *
    have f0 := HF.out.b0.cell 0 _ rfl; have f1 := HF.out.b0.cell 1 _ rfl; have f2 := HF.out.b0.cell 2 _ rfl; have f3 := HF.out.b0.cell 3 _ rfl; have u0 := HF.out.b1.cell 0 _ rfl; have u1 := HF.out.b1.cell 1 _ rfl; have u2 := HF.out.b1.cell 2 _ rfl; have rz0 := HF.out.b2.cell 0 _ rfl; have rz1 := HF.out.b2.cell 1 _ rfl; have rz2 := HF.out.b2.cell 2 _ rfl; have rz3 := HF.out.b2.cell 3 _ rfl; have fl0 := HF.out.b0.lt; have fl2 := HF.out.b2.lt; have ff0 := HF.out.b0.fz; have ff2 := HF.out.b2.fz
    go_wp2_with fail
    refine bodyPost_ret (v := .tuple #[.agg #[.slice p d.length c, .int .i64 room, .int .i64 calls, .int .i64 fail], .int .i64 ee]) ?_ rfl ⟨p, c, rfl, HH.out.keepN (HF.out.fin _ _ _ _), HF.out.fin _ _ _ _⟩
    rw [rcell_tmp rfl]
    go_simp
  case pos =>
    obtain ⟨m1, m2, m3⟩ := mid_make hI hcl he
    obtain ⟨n1, n2, n3⟩ := mid_enter hI hcl he hP pm
    have e1 : makeTo d room kind m s = d ++ [newNd kind m s] := by unfold makeTo; rw [if_pos he]
    have e3 : makeId d room kind m s = d.length := by unfold makeId; rw [if_pos he]
    have e2 : madeR d room ⟨pn, pd, pm⟩ kind m s = (relD (enterD (d ++ [newNd kind m s]) room pd pm d.length) d.length, enterErr (d ++ [newNd kind m s]) room pd pm d.length) := by
      unfold madeR entrR
      rw [if_neg (fun h => h he)]
    have hl1 : (d ++ [newNd kind m s]).length = d.length + 1 := by simp
    have hl2 : (enterD (d ++ [newNd kind m s]) room pd pm d.length).length = d.length + 1 := by rw [enterD_len, hl1]
    have hr3 : ∀ (wx : World) (p2 : Option Addr) (c2 : Nat) (L : List Nat), RefAt (NI S L) wx p2 c2 (enterD (d ++ [newNd kind m s]) room pd pm d.length) → (∀ g, wx.heap.size ≤ g → NI S L g) →
        Calls Tryz.prog 142 #[refV p2 c2 (enterD (d ++ [newNd kind m s]) room pd pm d.length) room, .int .i64 d.length, .int .i64 (-1)] wx (RTo (NI S L) wx (relD (enterD (d ++ [newNd kind m s]) room pd pm d.length) d.length) room (relErr (enterD (d ++ [newNd kind m s]) room pd pm d.length) d.length)) := fun wx p2 c2 L hr hN => by
      have := r4hold_any (room := room) hr hN n1 n2 (by omega) (d.length : Int) (-1) (.inr rfl)
      rw [hold_rel] at this
      exact this
    have hr2 : ∀ (wx : World) (p2 : Option Addr) (c2 : Nat) (L : List Nat), RefAt (NI S L) wx p2 c2 (d ++ [newNd kind m s]) → (∀ g, wx.heap.size ≤ g → NI S L g) →
        Calls Tryz.prog 127 #[refV p2 c2 (d ++ [newNd kind m s]) room, .int .i64 pd, .string pm, .int .i64 d.length] wx (RTo (NI S L) wx (enterD (d ++ [newNd kind m s]) room pd pm d.length) room (enterErr (d ++ [newNd kind m s]) room pd pm d.length)) := fun wx p2 c2 L hr hN =>
      r4enter_any (room := room) hr hN m1 (by unfold smallD; omega) pd pm d.length (by unfold maxLen; omega)
    have hsz3 : (relD (enterD (d ++ [newNd kind m s]) room pd pm d.length) d.length).length ≤ 2147483648 := by
      have := mass_ge (relD (enterD (d ++ [newNd kind m s]) room pd pm d.length) d.length)
      have := relD_mass (d := enterD (d ++ [newNd kind m s]) room pd pm d.length) (i := (d.length : Int))
      omega
    rw [e1, e3, he] at HMk
    obtain rfl : X = _ := hX.out.symm.trans e2
    clear hX
    replace hr2 := Lib.hid hr2
    replace hr3 := Lib.hid hr3
    clear e1 e2 e3 he m1 m2 m3 n1 n2 n3 hI hcl hms hP hsm
    generalize relErr (enterD (d ++ [newNd kind m s]) room pd pm d.length) d.length = re at *
    generalize enterErr (d ++ [newNd kind m s]) room pd pm d.length = ee at *
    generalize relD (enterD (d ++ [newNd kind m s]) room pd pm d.length) d.length = d3 at *
    generalize enterD (d ++ [newNd kind m s]) room pd pm d.length = d2 at *
    generalize d ++ [newNd kind m s] = d1 at *
    unfold RTo refV at hr2 hr3
    rw [hl1] at HMk hr2
    rw [hl2] at hr3
    go_upto_region 2 with (go_at_call 166; go_loud (refine HMk.out.mono ?_); rintro e w1 ⟨p1, c1, rfl, hr1, hkn⟩; (clear f0 f1 f2 f3 u0 u1 u2 rz0 rz1 rz2 rz3 fl0 fl2 ff0 ff2; replace HF := Lib.hid (HF.out.on hkn); have f0 := HF.out.b0.cell 0 _ rfl; have f1 := HF.out.b0.cell 1 _ rfl; have f2 := HF.out.b0.cell 2 _ rfl; have f3 := HF.out.b0.cell 3 _ rfl; have u0 := HF.out.b1.cell 0 _ rfl; have u1 := HF.out.b1.cell 1 _ rfl; have u2 := HF.out.b1.cell 2 _ rfl; have rz0 := HF.out.b2.cell 0 _ rfl; have rz1 := HF.out.b2.cell 1 _ rfl; have rz2 := HF.out.b2.cell 2 _ rfl; have rz3 := HF.out.b2.cell 3 _ rfl; have fl0 := HF.out.b0.lt; have fl2 := HF.out.b2.lt; have ff0 := HF.out.b0.fz; have ff2 := HF.out.b2.fz))
    have hDB : w.heap.size + 3 ≤ w1.heap.size := by omega
    replace HF := Lib.hid (HF.out.on ((Keeps.refl NoB w1).alloc (.cells #[.slice p1 (d.length + 1) c1, .int .i64 room] 35)))
    have HD := Lib.hid (Bk.new (Keeps.refl NoB (w1.alloc (.cells #[.slice p1 (d.length + 1) c1, .int .i64 room] 35))))
    have HR := Lib.hid (hr1.more ((Keeps.refl NoB w1).alloc (.cells #[.slice p1 (d.length + 1) c1, .int .i64 room] 35)) w1.heap.size (Nat.le_refl _))
    clear f0 f1 f2 f3 u0 u1 u2 rz0 rz1 rz2 rz3 fl0 fl2 ff0 ff2
    clear hr1 hkn HMk HR0
    generalize w1.alloc (.cells #[.slice p1 (d.length + 1) c1, .int .i64 room] 35) = w2 at *
    generalize w1.heap.size = DB at *
    -- Enter
    have HE := Lib.hid (hr2.out w2 p1 c1 _ HR.out (NI.new HS.out HF.out.k (by have := HF.out.b2.lt; have := HD.out.lt; simp; omega)))
    have f0 := HF.out.b0.cell 0 _ rfl; have f1 := HF.out.b0.cell 1 _ rfl; have f2 := HF.out.b0.cell 2 _ rfl; have f3 := HF.out.b0.cell 3 _ rfl; have u0 := HF.out.b1.cell 0 _ rfl; have u1 := HF.out.b1.cell 1 _ rfl; have u2 := HF.out.b1.cell 2 _ rfl; have rz0 := HF.out.b2.cell 0 _ rfl; have rz1 := HF.out.b2.cell 1 _ rfl; have rz2 := HF.out.b2.cell 2 _ rfl; have rz3 := HF.out.b2.cell 3 _ rfl; have fl0 := HF.out.b0.lt; have fl2 := HF.out.b2.lt; have ff0 := HF.out.b0.fz; have ff2 := HF.out.b2.fz
    have e0 := HD.out.cell 0 _ rfl
    have e1 := HD.out.cell 1 _ rfl
    go_upto_region 5 with (go_at_call 127; go_loud (refine HE.out.mono ?_); rintro e w3 ⟨p2, c2, rfl, hr, hkn⟩; clear e0 e1; replace HD := Lib.hid (HD.out.on hkn); have e0 := HD.out.cell 0 _ rfl; have e1 := HD.out.cell 1 _ rfl; have el := HD.out.lt; have ef := HD.out.fz; (clear f0 f1 f2 f3 u0 u1 u2 rz0 rz1 rz2 rz3 fl0 fl2 ff0 ff2; replace HF := Lib.hid (HF.out.on hkn); have f0 := HF.out.b0.cell 0 _ rfl; have f1 := HF.out.b0.cell 1 _ rfl; have f2 := HF.out.b0.cell 2 _ rfl; have f3 := HF.out.b0.cell 3 _ rfl; have u0 := HF.out.b1.cell 0 _ rfl; have u1 := HF.out.b1.cell 1 _ rfl; have u2 := HF.out.b1.cell 2 _ rfl; have rz0 := HF.out.b2.cell 0 _ rfl; have rz1 := HF.out.b2.cell 1 _ rfl; have rz2 := HF.out.b2.cell 2 _ rfl; have rz3 := HF.out.b2.cell 3 _ rfl; have fl0 := HF.out.b0.lt; have fl2 := HF.out.b2.lt; have ff0 := HF.out.b0.fz; have ff2 := HF.out.b2.fz))
    replace HF := Lib.hid (HF.out.beside hDB (kput2 w3 DB (.slice p2 (d.length + 1) c2) (.int .i64 room)))
    replace HD := Lib.hid ((HD.out.put 0 (.slice p2 (d.length + 1) c2)).put 1 (.int .i64 room))
    replace HR := Lib.hid (hr.put (kput2 w3 DB (.slice p2 (d.length + 1) c2) (.int .i64 room)) (by simp))
    clear f0 f1 f2 f3 u0 u1 u2 rz0 rz1 rz2 rz3 fl0 fl2 ff0 ff2
    clear hr hkn HE hr2 e0 e1 el ef
    generalize (w3.setCell ⟨DB, 0, none⟩ (.slice p2 (d.length + 1) c2)).setCell ⟨DB, 1, none⟩ (.int .i64 room) = w4 at *
    -- Hold
    have HE := Lib.hid (hr3.out w4 p2 c2 _ HR.out (NI.new HS.out HF.out.k (by have := HF.out.b2.lt; have := HD.out.lt; simp; omega)))
    have f0 := HF.out.b0.cell 0 _ rfl; have f1 := HF.out.b0.cell 1 _ rfl; have f2 := HF.out.b0.cell 2 _ rfl; have f3 := HF.out.b0.cell 3 _ rfl; have u0 := HF.out.b1.cell 0 _ rfl; have u1 := HF.out.b1.cell 1 _ rfl; have u2 := HF.out.b1.cell 2 _ rfl; have rz0 := HF.out.b2.cell 0 _ rfl; have rz1 := HF.out.b2.cell 1 _ rfl; have rz2 := HF.out.b2.cell 2 _ rfl; have rz3 := HF.out.b2.cell 3 _ rfl; have fl0 := HF.out.b0.lt; have fl2 := HF.out.b2.lt; have ff0 := HF.out.b0.fz; have ff2 := HF.out.b2.fz
    have e0 := HD.out.cell 0 _ rfl
    have e1 := HD.out.cell 1 _ rfl
    go_upto_region 6 with (go_at_call 142; go_loud (refine HE.out.mono ?_); rintro e w5 ⟨p3, c3, rfl, hr, hkn⟩; clear e0 e1; replace HD := Lib.hid (HD.out.on hkn); have e0 := HD.out.cell 0 _ rfl; have e1 := HD.out.cell 1 _ rfl; have el := HD.out.lt; have ef := HD.out.fz; (clear f0 f1 f2 f3 u0 u1 u2 rz0 rz1 rz2 rz3 fl0 fl2 ff0 ff2; replace HF := Lib.hid (HF.out.on hkn); have f0 := HF.out.b0.cell 0 _ rfl; have f1 := HF.out.b0.cell 1 _ rfl; have f2 := HF.out.b0.cell 2 _ rfl; have f3 := HF.out.b0.cell 3 _ rfl; have u0 := HF.out.b1.cell 0 _ rfl; have u1 := HF.out.b1.cell 1 _ rfl; have u2 := HF.out.b1.cell 2 _ rfl; have rz0 := HF.out.b2.cell 0 _ rfl; have rz1 := HF.out.b2.cell 1 _ rfl; have rz2 := HF.out.b2.cell 2 _ rfl; have rz3 := HF.out.b2.cell 3 _ rfl; have fl0 := HF.out.b0.lt; have fl2 := HF.out.b2.lt; have ff0 := HF.out.b0.fz; have ff2 := HF.out.b2.fz))
    replace HF := Lib.hid (HF.out.beside hDB (kput2 w5 DB (.slice p3 d3.length c3) (.int .i64 room)))
    replace HD := Lib.hid ((HD.out.put 0 (.slice p3 d3.length c3)).put 1 (.int .i64 room))
    replace HR := Lib.hid (hr.put (kput2 w5 DB (.slice p3 d3.length c3) (.int .i64 room)) (by simp))
    clear f0 f1 f2 f3 u0 u1 u2 rz0 rz1 rz2 rz3 fl0 fl2 ff0 ff2
    clear hr hkn HE hr3 e0 e1 el ef
    generalize (w5.setCell ⟨DB, 0, none⟩ (.slice p3 d3.length c3)).setCell ⟨DB, 1, none⟩ (.int .i64 room) = w6 at *
    have f0 := HF.out.b0.cell 0 _ rfl; have f1 := HF.out.b0.cell 1 _ rfl; have f2 := HF.out.b0.cell 2 _ rfl; have f3 := HF.out.b0.cell 3 _ rfl; have u0 := HF.out.b1.cell 0 _ rfl; have u1 := HF.out.b1.cell 1 _ rfl; have u2 := HF.out.b1.cell 2 _ rfl; have rz0 := HF.out.b2.cell 0 _ rfl; have rz1 := HF.out.b2.cell 1 _ rfl; have rz2 := HF.out.b2.cell 2 _ rfl; have rz3 := HF.out.b2.cell 3 _ rfl; have fl0 := HF.out.b0.lt; have fl2 := HF.out.b2.lt; have ff0 := HF.out.b0.fz; have ff2 := HF.out.b2.fz
    have e0 := HD.out.cell 0 _ rfl
    have e1 := HD.out.cell 1 _ rfl
    go_upto_region 7 with fail
    replace HR := Lib.hid (HR.out.put (kput2 w6 w.heap.size (.slice p3 d3.length c3) (.int .i64 room)) (by simp))
    replace HF := Lib.hid (HF.out.setD (.slice p3 d3.length c3) room)
    clear f0 f1 f2 f3 u0 u1 u2 rz0 rz1 rz2 rz3 fl0 fl2 ff0 ff2
    clear e0 e1
    generalize (w6.setCell ⟨w.heap.size, 0, none⟩ (.slice p3 d3.length c3)).setCell ⟨w.heap.size, 1, none⟩ (.int .i64 room) = w7 at *
    have f0 := HF.out.b0.cell 0 _ rfl; have f1 := HF.out.b0.cell 1 _ rfl; have f2 := HF.out.b0.cell 2 _ rfl; have f3 := HF.out.b0.cell 3 _ rfl; have u0 := HF.out.b1.cell 0 _ rfl; have u1 := HF.out.b1.cell 1 _ rfl; have u2 := HF.out.b1.cell 2 _ rfl; have rz0 := HF.out.b2.cell 0 _ rfl; have rz1 := HF.out.b2.cell 1 _ rfl; have rz2 := HF.out.b2.cell 2 _ rfl; have rz3 := HF.out.b2.cell 3 _ rfl; have fl0 := HF.out.b0.lt; have fl2 := HF.out.b2.lt; have ff0 := HF.out.b0.fz; have ff2 := HF.out.b2.fz
    go_wp2_with fail
    refine bodyPost_ret (v := .tuple #[.agg #[.slice p3 d3.length c3, .int .i64 room, .int .i64 calls, .int .i64 fail], .int .i64 ee]) ?_ rfl ⟨p3, c3, rfl, (HR.out.put (kput4 w7 (w.heap.size + 1 + 1) _ _ _ _) (by simp)).drop, HF.out.fin _ _ _ _⟩
    rw [rcell_tmp rfl]
    go_simp
end
end Go.Proofs.YtijbhmledmnifaaGreatDoor

/-
  Contracts of the reference for layer 5: look, into, part, joined.
-/
set_option maxRecDepth 100000
set_option maxHeartbeats 2000000
namespace Go.Proofs.YtijbhmledmnifaaGreatDoor
open Go Go.RowKit
theorem hasB_err (s : ByteArray) (h1 : ¬ s = ⟨#[]⟩) (h2 : ¬ 4095 < s.size) : pathErr s = if hasB s 0 then 11 else 0 := by
  unfold pathErr
  rw [if_neg h1, if_neg h2]
  have := bIdx_neg s 0
  by_cases hb : hasB s 0 = true
  · rw [if_pos hb, if_pos]
    have : ¬ bIdx s 0 < 0 := fun h => by rw [this.1 h] at hb; cases hb
    omega
  · rw [if_neg hb, if_neg]
    have := this.2 (by simpa using hb)
    omega
theorem r5look_any (s : ByteArray) (w : World) (hs : s.size ≤ 4294967296) :
    Calls Tryz.prog 235 #[.string s] w fun e w' => e = .returned (.int .i64 (pathErr s)) ∧ w' = w := by
  by_cases h1 : s = ⟨#[]⟩
  · subst h1
    have H := Lib.hid (show pathErr ⟨#[]⟩ = 12 by decide)
    go_enter Tryz.func235, Tryz.ntmps235
    go_wp2
    go_ret
    exact ⟨ret_i64 H.out.symm, rfl⟩
  by_cases h2 : 4095 < s.size
  · have H := Lib.hid (show pathErr s = 18 by unfold pathErr; rw [if_neg h1, if_pos h2])
    have hne := notEmpty_eq h1
    have hne' : s.toList.isEmpty = false := by simpa using hne
    have h2' : (4095 : Int) < (s.size : Int) := by omega
    go_enter Tryz.func235, Tryz.ntmps235
    go_wp2
    go_ret
    exact ⟨ret_i64 H.out.symm, rfl⟩
  · have H := Lib.hid (hasB_err s h1 h2)
    have hne := notEmpty_eq h1
    have hne' : s.toList.isEmpty = false := by simpa using hne
    have h2' : ¬ (4095 : Int) < (s.size : Int) := by omega
    go_enter Tryz.func235, Tryz.ntmps235
    go_wp2
    go_loop [3] (fun i => ∃ k : Nat, k ≤ s.size ∧ i = .int .i64 k ∧ ∀ (j : Nat) (h : j < s.size), j < k → ¬ s[j] = (0 : Int).toNat.toUInt8) (fun i => s.size - (intOf i).toNat)
    case atStart => exact ⟨0, Nat.zero_le _, rfl, fun j _ hj => by omega⟩
    case round =>
      obtain ⟨k, hk, rfl, hno⟩ := hrel
      have Hno := Lib.hid hno
      clear hno
      by_cases hlt : k < s.size
      · have Hb := Lib.hid (byte_eq s[k] 0 (by decide) (by decide))
        go_wp2
        · go_ret
          refine ⟨ret_i64 ?_, rfl⟩
          have h : ((s[k].toNat : Int) == 0) = true := by assumption
          rw [Hb.out, decide_eq_true_eq] at h
          have hh : hasB s 0 = true := (hasB_iff s 0).2 ⟨k, hlt, h⟩
          rw [H.out, if_pos hh]
        · have h : ((s[k].toNat : Int) == 0) = false := by assumption
          rw [Hb.out, decide_eq_false_iff_not] at h
          go_round
          case rel =>
            refine ⟨k + 1, by omega, by go_num, fun j hj hjk => ?_⟩
            by_cases e : j = k
            · subst e; exact h
            · exact Hno.out j hj (by omega)
          case measure => simp [intOf]; omega
      · go_wp2
        go_ret
        refine ⟨ret_i64 ?_, rfl⟩
        rw [H.out, if_neg]
        rw [hasB_iff]
        rintro ⟨j, hj, e⟩
        exact Hno.out j hj (by omega) e
theorem size_pos {s : ByteArray} (h : ¬ s = ⟨#[]⟩) : 1 ≤ s.size := by
  rcases Nat.lt_or_ge s.size 1 with h2 | h2
  · have h3 : s.data.toList = [] := List.eq_nil_of_length_eq_zero (by rw [len_data]; omega)
    exact absurd (eq_of_data (b := ⟨#[]⟩) (by rw [h3])) h
  · exact h2
theorem fold_ne (l : List ByteArray) (hl : ∀ x ∈ l, ¬ x = ⟨#[]⟩) : ∀ t : ByteArray, ¬ t = ⟨#[]⟩ → ¬ l.foldl joinB t = ⟨#[]⟩ := by
  induction l with
  | nil => exact fun t h => h
  | cons x r ih =>
    intro t ht
    refine ih (fun y hy => hl y (by simp [hy])) _ ?_
    have h1 := size_pos ht
    unfold joinB
    rw [if_neg ht]
    intro e
    have h2 := congrArg ByteArray.size e
    split at h2
    · rw [ByteArray.size_append] at h2
      have h0 : (⟨#[]⟩ : ByteArray).size = 0 := rfl
      omega
    · rw [ByteArray.size_append, ByteArray.size_append] at h2
      have h0 : (⟨#[]⟩ : ByteArray).size = 0 := rfl
      omega
theorem r5joined_any (S : Nat → Prop) (w : World) (p : Option Addr) (c : Nat) (l : List ByteArray) (h : SlAt encStr S w p c l) (t : ByteArray) (slash : Bool) (ht0 : ¬ t = ⟨#[]⟩) (hl0 : ∀ x ∈ l, ¬ x = ⟨#[]⟩)
    (hl : ∀ x ∈ l, x.size ≤ 4095) (hn : l.length ≤ 4096) (ht : t.size ≤ 2147483648) :
    Calls Tryz.prog 239 #[.string t, .slice p l.length c, .bool slash] w fun e w' => e = .returned (.string (restB t l slash)) ∧ w' = w := by
  have hcap := h.cap
  have hmax := h.max
  unfold maxLen at hmax
  have HL := Lib.hid hl
  clear hl
  have HR := Lib.hid (show restB t l slash = if slash && !endS (l.foldl joinB t) then l.foldl joinB t ++ slashB else l.foldl joinB t from rfl)
  have HF := Lib.hid (fun k : Nat => fold_size (l.take k) 4095 (fun x hx => HL.out x (List.mem_of_mem_take hx)) t)
  have HN := Lib.hid (fold_ne l hl0 t ht0)
  clear hl0 ht0
  generalize restB t l slash = Q at *
  go_enter Tryz.func239, Tryz.ntmps239
  go_wp2
  go_loop [7, 8] (fun s i => ∃ k : Nat, k ≤ l.length ∧ i = .int .i64 k ∧ s = .string ((l.take k).foldl joinB t)) (fun _ i => l.length - (intOf i).toNat)
  case atStart => exact ⟨0, Nat.zero_le _, rfl, rfl⟩
  case round =>
    obtain ⟨k, hk, rfl, rfl⟩ := hrel
    have hf := HF.out k
    rw [List.length_take, Nat.min_eq_left hk] at hf
    by_cases hlt : k < l.length
    · obtain ⟨x, hx⟩ : ∃ x, l[k]? = some x := ⟨_, List.getElem?_eq_getElem hlt⟩
      obtain ⟨gb, off, rfl, hS, hg, c0⟩ := h.str hx
      have hxs := HL.out x (List.mem_of_getElem? hx)
      have HT := Lib.hid (show (l.take (k + 1)).foldl joinB t = joinB ((l.take k).foldl joinB t) x by rw [List.take_add_one, hx]; simp)
      clear hx
      generalize (l.take k).foldl joinB t = s at *
      go_wp2_with (go_at_call 268; refine (r2join_any _ _ _ (by omega) (by omega)).mono ?_; rintro e w' ⟨rfl, rfl⟩)
      go_round
      case rel => exact ⟨k + 1, by omega, by go_num, by rw [HT.out]⟩
      case measure => simp [intOf]; omega
    · obtain rfl : k = l.length := by omega
      have hne := HN.out
      rw [List.take_length] at hf ⊢
      generalize l.foldl joinB t = s at *
      have hsz := size_pos hne
      have Hb := Lib.hid (byte_eq (s[s.size - 1]'(by omega)) 47 (by decide) (by decide))
      have e1 : ((s.size - 1 : Nat) : Int) = (s.size : Int) - 1 := by omega
      have E1 := Lib.hid e1
      have HE := Lib.hid (endS_last s hsz)
      clear e1 hne
      cases slash with
      | false =>
        go_wp2_with fail
        go_ret
        refine ⟨?_, rfl⟩
        rw [HR.out]
        simp
      | true =>
        go_wp2_with fail
        all_goals
          go_ret
          refine ⟨?_, rfl⟩
          first
            | (have h3 : ((s[s.size - 1].toNat : Int) != 47) = true := by assumption
               have h5 : ((s[s.size - 1].toNat : Int) == 47) = false := by simpa [bne] using h3
               rw [Hb.out] at h5; have h4 : ¬ s[s.size - 1] = 47 := of_decide_eq_false h5; rw [HR.out, HE.out]; simp [h4]; done)
            | (have h3 : ((s[s.size - 1].toNat : Int) != 47) = false := by assumption
               have h5 : ((s[s.size - 1].toNat : Int) == 47) = true := by simpa [bne] using h3
               rw [Hb.out] at h5; have h4 : s[s.size - 1] = 47 := of_decide_eq_true h5; rw [HR.out, HE.out]; simp [h4]; done)
            | skip
section
variable {S : Nat → Prop} {w : World} {p : Option Addr} {c : Nat} {d : Nds} {room : Int}
theorem r5into_any (h : RefAt S w p c d) (hI : DInv d) (i : Int) :
    Calls Tryz.prog 237 #[refV p c d room, .int .i64 i] w fun e w' => e = .returned (.int .i64 (intoErr d i)) ∧ Keeps NoB w w' := by
  have hcap := h.cap
  have hmax := h.max
  unfold maxLen at hmax
  have hal : Keeps NoB w (w.alloc (.cells #[.slice p d.length c, .int .i64 room] 35)) := (Keeps.refl _ _).alloc _
  have hh := r4folder_any (room := room) (h.keepN hal) hI.zero i
  by_cases hf : folderErr d i = 0
  · have hi : has d i := by
      unfold folderErr at hf
      split at hf
      · cases hf
      · assumption
    obtain ⟨k, rfl, hk⟩ := has_nat hi
    obtain ⟨g, off, q, m, rfl, hS, hrow⟩ := h.rowAt hk
    have HQ := Lib.hid (show intoErr d k = if (nd d k).mode / 64 % 2 = 0 then 19 else 0 by unfold intoErr; rw [if_neg (by rw [hf]; simp)])
    rw [hf] at hh
    have HH := Lib.hid hh
    have hm0 := (hI.node k).mode0
    have hm1 := (hI.node k).mode1
    have HR := Lib.hid (fun w1 (hk : Keeps NoB w w1) => hrow.keepN hk)
    clear hh hrow h hi hf
    generalize intoErr d k = Q at *
    unfold refV at *
    have HA := Lib.hid hal
    clear hal
    have hz : ((nd d k).mode / 64 % 2 == 0) = decide ((nd d k).mode / 64 % 2 = 0) := by rw [Bool.eq_iff_iff]; simp
    by_cases h0 : (nd d k).mode / 64 % 2 = 0
    all_goals
      have HQ2 := HQ.out
      first | (rw [if_pos h0] at HQ2; rw [decide_eq_true h0] at hz) | (rw [if_neg h0] at HQ2; rw [decide_eq_false h0] at hz)
      replace HQ2 := Lib.hid HQ2
      clear HQ h0
      go_enter Tryz.func237, Tryz.ntmps237
      go_wp2_with (go_at_call 191; refine HH.out.mono ?_; rintro e w1 ⟨rfl, hk1⟩; have b0 : w1.cell? ⟨w.heap.size, 0, none⟩ = some (.slice (some ⟨g, off, none⟩) d.length c) := boxed hk1 0 _ rfl; have hr1 := HR.out _ (HA.out.trans hk1); have r1 := hr1.c1; have rl := hr1.lt)
      go_ret
      exact ⟨ret_i64 HQ2.out.symm, HA.out.trans hk1⟩
  · have HQ := Lib.hid (show intoErr d i = folderErr d i by unfold intoErr; rw [if_pos hf])
    have hne : (folderErr d i != 0) = true := by simpa using hf
    have HH := Lib.hid hh
    have HA := Lib.hid hal
    clear hh hf hal
    generalize folderErr d i = fe at *
    generalize intoErr d i = Q at *
    unfold refV at *
    go_enter Tryz.func237, Tryz.ntmps237
    go_wp2_with (go_at_call 191; refine HH.out.mono ?_; rintro e w1 ⟨rfl, hk1⟩)
    go_ret
    exact ⟨ret_i64 HQ.out.symm, HA.out.trans hk1⟩
def partP (d : Nds) (up : Int → Int) (at' : Int) (x : ByteArray) : Plc × Int :=
  if x = dotB then (.on at', 0) else if x = dotsB then (.on (up at'), 0) else if 255 < x.size then (.no, 18) else (⟨lookOf d at' x, at', x⟩, 0)
theorem r5part_any (h : RefAt S w p c d) (hI : DInv d) (hs : smallD d) {up : Int → Int} (hup : ∀ i u, folderErr d i = 0 → UpIs d i u → up i = u) (at' : Int) (hf : folderErr d at' = 0) (x : ByteArray) :
    Calls Tryz.prog 238 #[refV p c d room, .int .i64 at', .string x] w fun e w' => e = .returned (.tuple #[plcV (partP d up at' x).1, .int .i64 (partP d up at' x).2]) ∧ Keeps NoB w w' := by
  have hcap := h.cap
  have hmax := h.max
  unfold maxLen at hmax
  have hal : Keeps NoB w ((w.alloc (.cells #[.slice p d.length c, .int .i64 room] 35)).alloc (.cells #[.int .i64 0, .int .i64 0, .string ⟨#[]⟩] 129)) := ((Keeps.refl _ _).alloc _).alloc _
  have e1 : (w.alloc (.cells #[.slice p d.length c, .int .i64 room] 35)).heap.size = w.heap.size + 1 := by simp
  have HA := Lib.hid hal
  have HD := Lib.hid (show partP d up at' x = if x = dotB then (.on at', 0) else if x = dotsB then (.on (up at'), 0) else if 255 < x.size then (.no, 18) else (⟨lookOf d at' x, at', x⟩, 0) from rfl)
  generalize partP d up at' x = Q at *
  have ht := hI.two
  by_cases h1 : x = dotB
  · have HQ := HD.out
    rw [if_pos h1] at HQ
    replace HQ := Lib.hid HQ
    clear HD hal
    subst h1
    unfold refV
    go_enter Tryz.func238, Tryz.ntmps238
    go_wp2
    (try simp only [Exit.inBlock, Exit.then]); refine bodyPost_ret (v := .tuple #[plcV Q.1, .int .i64 Q.2]) ?_ rfl ?_; rw [HQ.out, results_cell_tmp rfl]; (try unfold plcV); (try unfold Plc.no); (try unfold Plc.on); go_simp; refine ⟨rfl, ?_⟩; (repeat (first | with_reducible assumption | (with_reducible exact Keeps.refl _ _) | (with_reducible refine Keeps.drew ?_) | (with_reducible refine Keeps.alloc ?_ _) | (with_reducible refine Keeps.setCell ?_ (by first | exact Or.inl rfl | exact Or.inr (Nat.le_refl _) | exact Or.inr (by first | (simp; done) | (simp; omega))) _)))
  have d1 : (x.toList == [46]) = false := not_dot h1
  by_cases h2 : x = dotsB
  · have HU := Lib.hid (r4up_any (room := room) (h.keepN hal) hI.zero (by omega) hs at')
    have HQ := HD.out
    rw [if_neg h1, if_pos h2] at HQ
    replace HQ := Lib.hid HQ
    have HUp := Lib.hid (fun u => hup at' u hf)
    clear HD hal
    subst h2
    unfold refV at *
    go_enter Tryz.func238, Tryz.ntmps238
    go_wp2_with (go_at_call 147; refine HU.out.mono ?_; rintro e w1 ⟨u, rfl, hui, hk1⟩; have hu := HUp.out u hui; subst hu; have KB := c3_new (v0 := .int .i64 0) (v1 := .int .i64 0) (v2 := .string ⟨#[]⟩) hk1; rw [e1] at KB; have B0 := KB.c0; have B1 := KB.c1; have B2 := KB.c2; have FB := KB.fz; have bl := KB.lt; have kz := HA.out.trans hk1)
    (try simp only [Exit.inBlock, Exit.then]); refine bodyPost_ret (v := .tuple #[plcV Q.1, .int .i64 Q.2]) ?_ rfl ?_; rw [HQ.out, results_cell_tmp rfl]; (try unfold plcV); (try unfold Plc.no); (try unfold Plc.on); go_simp; refine ⟨rfl, ?_⟩; (repeat (first | with_reducible assumption | (with_reducible exact Keeps.refl _ _) | (with_reducible refine Keeps.drew ?_) | (with_reducible refine Keeps.alloc ?_ _) | (with_reducible refine Keeps.setCell ?_ (by first | exact Or.inl rfl | exact Or.inr (Nat.le_refl _) | exact Or.inr (by first | (simp; done) | (simp; omega))) _)))
  have d2 : (x.toList == [46, 46]) = false := not_dots h2
  by_cases h3 : 255 < x.size
  · have HQ := HD.out
    rw [if_neg h1, if_neg h2, if_pos h3] at HQ
    replace HQ := Lib.hid HQ
    have h3' : (255 : Int) < (x.size : Int) := by omega
    clear HD hal
    unfold refV at *
    go_enter Tryz.func238, Tryz.ntmps238
    go_wp2
    (try simp only [Exit.inBlock, Exit.then]); refine bodyPost_ret (v := .tuple #[plcV Q.1, .int .i64 Q.2]) ?_ rfl ?_; rw [HQ.out, results_cell_tmp rfl]; (try unfold plcV); (try unfold Plc.no); (try unfold Plc.on); go_simp; refine ⟨rfl, ?_⟩; (repeat (first | with_reducible assumption | (with_reducible exact Keeps.refl _ _) | (with_reducible refine Keeps.drew ?_) | (with_reducible refine Keeps.alloc ?_ _) | (with_reducible refine Keeps.setCell ?_ (by first | exact Or.inl rfl | exact Or.inr (Nat.le_refl _) | exact Or.inr (by first | (simp; done) | (simp; omega))) _)))
  · have HL := Lib.hid (r4look_any (room := room) (h.keepN hal) hI at' x)
    have HQ := HD.out
    rw [if_neg h1, if_neg h2, if_neg h3] at HQ
    replace HQ := Lib.hid HQ
    have h3' : ¬ (255 : Int) < (x.size : Int) := by omega
    clear HD hal
    generalize lookOf d at' x = k at *
    generalize lookErr d at' x = le at *
    unfold refV at *
    go_enter Tryz.func238, Tryz.ntmps238
    go_wp2_with (go_at_call 195; refine HL.out.mono ?_; rintro e w1 ⟨rfl, hk1⟩; have KB := c3_new (v0 := .int .i64 0) (v1 := .int .i64 0) (v2 := .string ⟨#[]⟩) hk1; rw [e1] at KB; have B0 := KB.c0; have B1 := KB.c1; have B2 := KB.c2; have FB := KB.fz; have bl := KB.lt; have kz := HA.out.trans hk1)
    (try simp only [Exit.inBlock, Exit.then]); refine bodyPost_ret (v := .tuple #[plcV Q.1, .int .i64 Q.2]) ?_ rfl ?_; rw [HQ.out, results_cell_tmp rfl]; (try unfold plcV); (try unfold Plc.no); (try unfold Plc.on); go_simp; refine ⟨rfl, ?_⟩; (repeat (first | with_reducible assumption | (with_reducible exact Keeps.refl _ _) | (with_reducible refine Keeps.drew ?_) | (with_reducible refine Keeps.alloc ?_ _) | (with_reducible refine Keeps.setCell ?_ (by first | exact Or.inl rfl | exact Or.inr (Nat.le_refl _) | exact Or.inr (by first | (simp; done) | (simp; omega))) _)))
end
end Go.Proofs.YtijbhmledmnifaaGreatDoor
