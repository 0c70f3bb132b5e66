/-
  Layer 6: the program's disk, and blocks that are not its own.
-/
import Derived.Test.YtfomkkoecelakaaDoorB11
import Derived.Test.YtfomkkoecelakaaDoorB09
import Derived.Test.YtfomkkoecelakaaDoorB24
import Derived.Test.YtfomkkoecelakaaDoorB12
import Derived.Test.YtfomkkoecelakaaDoorB31
import Derived.Test.YtfomkkoecelakaaDoorB08
import Derived.Test.YtfomkkoecelakaaDoorB20
import Derived.Test.YtfomkkoecelakaaDoorB25

set_option linter.unusedSimpArgs false
set_option linter.unusedVariables false

set_option maxRecDepth 100000
namespace Go.Proofs.YtfomkkoecelakaaDoor
open Go Go.RowKit

/-- The program's disk lies in memory, and touches none of the blocks N. -/
structure PD (N : Nat → Prop) (w : World) (a : Nat) (d : Nds) (room : Int) : Prop where
  low : ∀ x, N x → x < w.heap.size
  ex : ∃ R : RD, IsDisk R w a d room ∧ ∀ x, N x → R.tag x = .none

section
variable {N : Nat → Prop} {w w' : World} {a : Nat} {d d' : Nds} {room : Int}

theorem PD.inv (h : PD N w a d room) : DInv d := by obtain ⟨R, h1, _⟩ := h.ex; exact h1.inv
theorem PD.clean (h : PD N w a d room) : NoGarb d := by obtain ⟨R, h1, _⟩ := h.ex; exact h1.clean
theorem PD.small (h : PD N w a d room) : smallD d := by obtain ⟨R, h1, _⟩ := h.ex; exact h1.small

theorem tag_top {R : RD} (h : IsDisk R w a d room) : ∀ x, w.heap.size ≤ x → R.tag x = .none := by
  obtain ⟨⟨lk, up, hC⟩, _, _, _⟩ := h
  exact hC.rep.top

theorem HereTo.pd {W : World} (h : HereTo W w a d room) : PD (fun g => g < W.heap.size) w a d room := by
  obtain ⟨R, h⟩ := h
  exact ⟨fun x hx => Nat.lt_of_lt_of_le hx h.keeps.size, R, h.disk, h.tag⟩

/-- Only what is new, or not the disk's, has turned; what is new may be guarded, too. -/
theorem PD.grow {N' F : Nat → Prop} (h : PD N w a d room) (k : Keeps F w w') (hF : ∀ x, x < w.heap.size → F x → N x) (hN : ∀ x, N' x → N x ∨ (w.heap.size ≤ x ∧ x < w'.heap.size)) : PD N' w' a d room := by
  obtain ⟨R, h1, h2⟩ := h.ex
  have hs := k.size
  refine ⟨fun x hx => ?_, R, h1.keep k (fun x hl hx => h2 x (hF x hl hx)), fun x hx => ?_⟩
  · rcases hN x hx with h4 | h4
    · exact Nat.lt_of_lt_of_le (h.low x h4) hs
    · exact h4.2
  · rcases hN x hx with h4 | h4
    · exact h2 x h4
    · exact tag_top h1 x h4.1
theorem PD.keep {F : Nat → Prop} (h : PD N w a d room) (k : Keeps F w w') (hF : ∀ x, x < w.heap.size → F x → N x) : PD N w' a d room := h.grow k hF (fun _ hx => .inl hx)
theorem PD.on (h : PD N w a d room) (k : Keeps NoB w w') : PD N w' a d room := h.keep k (fun _ _ hx => hx.elim)
theorem PD.less {N' : Nat → Prop} (h : PD N w a d room) (hN : ∀ x, N' x → N x) : PD N' w a d room := h.grow (Keeps.refl NoB w) (fun _ _ hx => hx.elim) (fun x hx => .inl (hN x hx))

/-- A call of the disk. -/
theorem PD.prog {f : Nat} {args : Array Value} {E : Ending} (h : PD N w a d room) (hc : ∀ R, IsDisk R w a d room → Calls Tryd.prog f args w fun e w' => e = E ∧ DiskTo R w a d' room w') :
    Calls Tryd.prog f args w fun e w' => e = E ∧ PD N w' a d' room ∧ Keeps (fun g => ¬ N g) w w' := by
  obtain ⟨R, h1, h2⟩ := h.ex
  refine (hc R h1).mono ?_
  rintro e w' ⟨rfl, R', h4, h5⟩
  have hs := h5.keeps.size
  exact ⟨rfl, ⟨fun x hx => Nat.lt_of_lt_of_le (h.low x hx) hs, R', h4, fun x hx => by rw [h5.same x (h.low x hx)]; exact h2 x hx⟩, h5.keeps.mono (fun x _ hx hN => hx (h2 x hN))⟩

/-- A call that only reads. -/
theorem PD.tells {f : Nat} {args : Array Value} {Q : Ending → World → Prop} (h : PD N w a d room)
    (hc : ∀ R lk up, Rep R w a d room (used d) lk up → (∀ i, has d i → lk i = ((links d i : Nat) : Int)) → UpEq d up (upC d) → Calls Tryd.prog f args w Q) : Calls Tryd.prog f args w Q := by
  obtain ⟨R, ⟨⟨lk, up, hC⟩, _, _, _⟩, h2⟩ := h.ex
  have hlk : ∀ i, has d i → lk i = ((links d i : Nat) : Int) := fun i hi => by have := hC.cnt i hi; simpa [zp] using this
  refine hc R lk up hC.rep hlk fun i hf => ?_
  obtain ⟨hi, hk⟩ := folderErr_zero hf
  obtain ⟨p1, p2, p3⟩ := hC.upok i hi
  by_cases h1 : i = 1
  · subst h1
    rw [p2 rfl]
    unfold upC
    rw [if_pos rfl]
  · by_cases hp : ∃ j, Par d j i
    · obtain ⟨j, hj⟩ := hp
      rw [p1 j hj, upC_par hC.inv h1 hj (fun ha hb => hC.inv.par_one ha hb)]
    · rw [upC_none h1 hp]
      refine p3 ?_
      rw [hlk i hi]
      have : cnt d i = 0 := Nat.eq_zero_of_not_pos fun h0 => by
        obtain ⟨j, e, he, hei⟩ := cnt_pos.1 h0
        exact hp ⟨j, hk, e, he, hei⟩
      unfold links
      rw [this, if_neg h1]
      rfl
end

end Go.Proofs.YtfomkkoecelakaaDoor

/-
  Layer 6, plain: what the calls of files do to a disk. No program in sight.
-/
set_option maxRecDepth 100000
namespace Go.Proofs.YtfomkkoecelakaaDoor

/-- May a node's user do something with it? -/
def mayE (d : Nds) (id bit : Int) : Int := if ¬ has d id then 12 else if (nd d id).mode / bit % 2 = 0 then 19 else 0

/-- Find and There, as a user of a disk sees them. -/
noncomputable def fndR (d : Nds) (at' : Int) (s : ByteArray) (follow : Bool) : Plc × Int := findR d (upC d) follow 41 at' s 0
noncomputable def thrR (d : Nds) (at' : Int) (s : ByteArray) (follow : Bool) : Plc × Int := thereR (fndR d at' s follow)

/-- Where something new comes. -/
noncomputable def freeR (d : Nds) (at' : Int) (s : ByteArray) (slash : Bool) : Plc × Int :=
  if (fndR d at' s false).2 ≠ 0 then (.no, (fndR d at' s false).2)
  else if (fndR d at' s false).1.node ≠ 0 then (.no, 13)
  else if slash = false ∧ endS s = true then (.no, 12)
  else ((fndR d at' s false).1, mayE d (fndR d at' s false).1.dir 128)

/-- What goes. -/
noncomputable def goneR (d : Nds) (at' : Int) (s : ByteArray) (folder : Bool) : Plc × Int :=
  if (thrR d at' s false).2 ≠ 0 then (.no, (thrR d at' s false).2)
  else if folder = true ∧ (nd d (thrR d at' s false).1.node).kind ≠ 2 then (.no, 14)
  else if folder = false ∧ (nd d (thrR d at' s false).1.node).kind = 2 then (.no, 15)
  else if (thrR d at' s false).1.name = ⟨#[]⟩ then (.no, 23)
  else ((thrR d at' s false).1, mayE d (thrR d at' s false).1.dir 128)

/-- A call that changes something, or fails. -/
def callE (calls fail : Int) : Int := if calls = fail then 21 else 0

/-- The bits of a mask are none of a mode's. -/
def freshM (m mask : Int) : Int := bits BinOp.andNot IntKind.i64 m (bits BinOp.and IntKind.i64 mask 511)

/-- A node comes to a name, and is let go. -/
noncomputable def entrR (d : Nds) (room : Int) (p : Plc) (id : Int) : Nds × Int := (relD (enterD d room p.dir p.name id) id, enterErr d room p.dir p.name id)
/-- A new node comes to a name. -/
noncomputable def madeR (d : Nds) (room : Int) (p : Plc) (kind m : Int) (s : ByteArray) : Nds × Int :=
  if makeErr d room kind m s ≠ 0 then (d, makeErr d room kind m s) else entrR (d ++ [newNd kind m s]) room p d.length

noncomputable def mkdirR (d : Nds) (room at' mask : Int) (s : ByteArray) (m : Int) : Nds × Int :=
  if (freeR d at' s true).2 ≠ 0 then (d, (freeR d at' s true).2) else madeR d room (freeR d at' s true).1 2 (freshM m mask) ⟨#[]⟩

noncomputable def symR (d : Nds) (room at' : Int) (t s : ByteArray) : Nds × Int :=
  if pathErr t ≠ 0 then (d, pathErr t) else if (freeR d at' s false).2 ≠ 0 then (d, (freeR d at' s false).2) else madeR d room (freeR d at' s false).1 3 511 t

noncomputable def linkR (d : Nds) (room at' : Int) (old s : ByteArray) : Nds × Int :=
  if (thrR d at' old false).2 ≠ 0 then (d, (thrR d at' old false).2)
  else if (nd d (thrR d at' old false).1.node).kind = 2 then (d, 22)
  else if (freeR d at' s false).2 ≠ 0 then (d, (freeR d at' s false).2)
  else (enterD d room (freeR d at' s false).1.dir (freeR d at' s false).1.name (thrR d at' old false).1.node, enterErr d room (freeR d at' s false).1.dir (freeR d at' s false).1.name (thrR d at' old false).1.node)

noncomputable def remR (d : Nds) (at' : Int) (s : ByteArray) (folder : Bool) : Nds × Int :=
  if (goneR d at' s folder).2 ≠ 0 then (d, (goneR d at' s folder).2)
  else (leaveTo d (goneR d at' s folder).1.dir (goneR d at' s folder).1.name, leaveErr d (goneR d at' s folder).1.dir (goneR d at' s folder).1.name)

noncomputable def renR (d : Nds) (room at' : Int) (a b : ByteArray) : Nds × Int :=
  if (thrR d at' a false).2 ≠ 0 then (d, (thrR d at' a false).2)
  else if (fndR d at' b false).2 ≠ 0 then (d, (fndR d at' b false).2)
  else if (thrR d at' a false).1.name = ⟨#[]⟩ ∨ (fndR d at' b false).1.name = ⟨#[]⟩ then (d, 23)
  else if (fndR d at' b false).1.node = 0 ∧ endS b = true ∧ (nd d (thrR d at' a false).1.node).kind ≠ 2 then (d, 14)
  else if mayE d (thrR d at' a false).1.dir 128 ≠ 0 then (d, mayE d (thrR d at' a false).1.dir 128)
  else if mayE d (fndR d at' b false).1.dir 128 ≠ 0 then (d, mayE d (fndR d at' b false).1.dir 128)
  else (moveD d room (thrR d at' a false).1.dir (thrR d at' a false).1.name (fndR d at' b false).1.dir (fndR d at' b false).1.name, moveErr d room (thrR d at' a false).1.dir (thrR d at' a false).1.name (fndR d at' b false).1.dir (fndR d at' b false).1.name)

noncomputable def chmR (d : Nds) (at' : Int) (s : ByteArray) (m : Int) : Nds × Int :=
  if (thrR d at' s true).2 ≠ 0 then (d, (thrR d at' s true).2) else (chmodD d (thrR d at' s true).1.node m, chmodErr d (thrR d at' s true).1.node m)

/-- Is a flag laid? -/
def flg (flags n : Int) : Bool := bits BinOp.and IntKind.i64 flags n != 0

/-- A file that is not there. -/
noncomputable def freshR (d : Nds) (room mask : Int) (p : Plc) (s : ByteArray) (flags m : Int) : Nds × Int × Int :=
  if flg flags 4 = false then (d, 0, 12)
  else if endS s = true then (d, 0, 15)
  else if mayE d p.dir 128 ≠ 0 then (d, 0, mayE d p.dir 128)
  else if makeErr d room 1 (freshM m mask) ⟨#[]⟩ ≠ 0 then (d, 0, makeErr d room 1 (freshM m mask) ⟨#[]⟩)
  else if enterErr (d ++ [newNd 1 (freshM m mask) ⟨#[]⟩]) room p.dir p.name d.length ≠ 0 then
    (relD (enterD (d ++ [newNd 1 (freshM m mask) ⟨#[]⟩]) room p.dir p.name d.length) d.length, 0, enterErr (d ++ [newNd 1 (freshM m mask) ⟨#[]⟩]) room p.dir p.name d.length)
  else (enterD (d ++ [newNd 1 (freshM m mask) ⟨#[]⟩]) room p.dir p.name d.length, d.length, 0)

/-- A file that is there. -/
def thereErr (d : Nds) (id flags : Int) : Int :=
  if (nd d id).kind = 2 then 15 else if (nd d id).kind ≠ 1 then 17
  else if (flg flags 1 = true ∧ (nd d id).mode / 256 % 2 = 0) ∨ (flg flags 10 = true ∧ (nd d id).mode / 128 % 2 = 0) then 19 else 0
def openedR (d : Nds) (id flags : Int) : Nds × Int × Int :=
  if thereErr d id flags ≠ 0 then (d, 0, thereErr d id flags)
  else (holdD (if flg flags 8 = true then emptyD d id else d) id, id, hldErr (if flg flags 8 = true then emptyD d id else d) id)

/-- Only one that is new? -/
def aloneF (flags : Int) : Bool := flg flags 4 && flg flags 16
noncomputable def openR (d : Nds) (room at' mask : Int) (s : ByteArray) (flags m : Int) : Nds × Int × Int :=
  if (fndR d at' s (!aloneF flags)).2 ≠ 0 then (d, 0, (fndR d at' s (!aloneF flags)).2)
  else if (fndR d at' s (!aloneF flags)).1.node = 0 then freshR d room mask (fndR d at' s (!aloneF flags)).1 s flags m
  else if aloneF flags = true then (d, 0, 13)
  else openedR d (fndR d at' s (!aloneF flags)).1.node flags

/-- Does opening count as a call? -/
def openC (flags : Int) : Bool := flg flags 12

/-- A call that fails does nothing else. -/
def orFail (calls fail : Int) (d : Nds) (x : Nds × Int) : Nds × Int := if callE calls fail ≠ 0 then (d, callE calls fail) else x

end Go.Proofs.YtfomkkoecelakaaDoor

/-
  Layer 6, plain: facts of the ways and of what is made. No program in sight.
-/
set_option maxRecDepth 100000
namespace Go.Proofs.YtfomkkoecelakaaDoor

theorem stepR_size (d : Nds) (up : Int → Int) (at' : Int) (x : ByteArray) (follow : Bool) (n : Nat) : (stepR d up at' x follow n).p.name.size ≤ 255 := by
  unfold stepR
  split; · exact Nat.zero_le _
  split; · exact Nat.zero_le _
  split; · exact Nat.zero_le _
  split; · exact Nat.zero_le _
  split; · next h _ => exact Nat.le_of_not_lt h
  split; · next h _ _ => exact Nat.le_of_not_lt h
  split; · exact Nat.zero_le _
  next h _ _ _ => exact Nat.le_of_not_lt h

theorem scan_size (d : Nds) (up : Int → Int) (slash follow : Bool) : ∀ (l : List ByteArray) (at' : Int) (n : Nat) (p q : Plc), p.name.size ≤ 255 → scan d up slash follow l at' n p = .fin q → q.name.size ≤ 255
  | [], _, _, p, q, hp, h => by
    unfold scan at h
    cases h
    exact hp
  | x :: r, at', n, p, q, hp, h => by
    unfold scan at h
    simp only at h
    split at h; · cases h
    split at h; · cases h
    split at h; · cases h
    exact scan_size d up slash follow r _ _ _ q (stepR_size _ _ _ _ _ _) h

theorem findR_size (d : Nds) (up : Int → Int) (follow : Bool) : ∀ (fuel : Nat) (from' : Int) (s : ByteArray) (n : Nat), (findR d up follow fuel from' s n).1.name.size ≤ 255
  | 0, _, _, _ => by unfold findR; decide
  | fuel + 1, from', s, n => by
    unfold findR
    split; · exact Nat.zero_le _
    split; · exact Nat.zero_le _
    split
    · next p hp =>
      have := scan_size d up (endS s) follow _ _ _ _ _ (Nat.zero_le _) hp
      unfold endR
      split; · exact this
      split; · exact Nat.zero_le _
      exact this
    · exact Nat.zero_le _
    · exact findR_size d up follow fuel _ _ _

theorem fndR_size (d : Nds) (at' : Int) (s : ByteArray) (follow : Bool) : (fndR d at' s follow).1.name.size ≤ 255 := findR_size _ _ _ _ _ _ _
theorem thrR_size (d : Nds) (at' : Int) (s : ByteArray) (follow : Bool) : (thrR d at' s follow).1.name.size ≤ 255 := by
  unfold thrR thereR
  split; · exact Nat.zero_le _
  split; · exact Nat.zero_le _
  exact fndR_size _ _ _ _

theorem thrR_ok {d : Nds} {at' : Int} {s : ByteArray} {follow : Bool} (h : (thrR d at' s follow).2 = 0) : thrR d at' s follow = fndR d at' s follow ∧ (fndR d at' s follow).1.node ≠ 0 := by
  unfold thrR thereR at *
  split at h
  · next h1 => exact absurd h h1
  · next h1 =>
    rw [if_neg h1]
    split at h
    · cases h
    · next h2 => rw [if_neg h2]; exact ⟨rfl, h2⟩

/-- Where something new may come there is a directory. -/
theorem freeR_ok {d : Nds} {at' : Int} {s : ByteArray} {slash : Bool} {p : Plc} (h : freeR d at' s slash = (p, 0)) : has d p.dir ∧ p.name.size ≤ 255 ∧ p.node = 0 ∧ p = (fndR d at' s false).1 ∧ mayE d p.dir 128 = 0 := by
  have hsz := fndR_size d at' s false
  unfold freeR at h
  split at h
  · next h1 => rw [Prod.mk.injEq] at h; exact absurd h.2 h1
  split at h
  · rw [Prod.mk.injEq] at h; exact absurd h.2 (by decide)
  split at h
  · rw [Prod.mk.injEq] at h; exact absurd h.2 (by decide)
  next h1 h2 h3 =>
  rw [Prod.mk.injEq] at h
  obtain ⟨rfl, h4⟩ := h
  refine ⟨?_, hsz, Classical.not_not.1 h2, rfl, h4⟩
  unfold mayE at h4
  split at h4
  · cases h4
  · next hh => exact Classical.not_not.1 hh

theorem goneR_ok {d : Nds} {at' : Int} {s : ByteArray} {folder : Bool} {p : Plc} (h : goneR d at' s folder = (p, 0)) : p.name.size ≤ 255 ∧ p = (thrR d at' s false).1 := by
  have hsz := thrR_size d at' s false
  unfold goneR at h
  split at h
  · next h1 => rw [Prod.mk.injEq] at h; exact absurd h.2 h1
  split at h
  · rw [Prod.mk.injEq] at h; exact absurd h.2 (by decide)
  split at h
  · rw [Prod.mk.injEq] at h; exact absurd h.2 (by decide)
  split at h
  · rw [Prod.mk.injEq] at h; exact absurd h.2 (by decide)
  rw [Prod.mk.injEq] at h
  obtain ⟨rfl, _⟩ := h
  exact ⟨hsz, rfl⟩

theorem makeTo_ok {d : Nds} {room kind m : Int} {s : ByteArray} (h : makeErr d room kind m s = 0) : makeTo d room kind m s = d ++ [newNd kind m s] ∧ makeId d room kind m s = d.length := by
  unfold makeTo makeId
  rw [if_pos h, if_pos h]
  exact ⟨rfl, rfl⟩

theorem mass_made (d : Nds) (kind m : Int) (s : ByteArray) : mass (d ++ [newNd kind m s]) = mass d + 2 := by
  rw [mass_append]
  rfl

theorem made_above {d : Nds} {kind m : Int} {s : ByteArray} {i : Int} (hi : has d i) : ¬ Above (d ++ [newNd kind m s]) d.length i := fresh_above rfl (fun e => by
  have := (has_range hi)
  omega)

end Go.Proofs.YtfomkkoecelakaaDoor

/-
  Layer 6, plain: Open, with the call that may fail. No program in sight.
-/
set_option maxRecDepth 100000
namespace Go.Proofs.YtfomkkoecelakaaDoor
/-- Open, the call that may fail with it. -/
noncomputable def openF (calls fail : Int) (d : Nds) (room at' mask : Int) (s : ByteArray) (flags m : Int) : Nds × Int × Int :=
  if openC flags = true ∧ callE calls fail ≠ 0 then (d, 0, callE calls fail) else openR d room at' mask s flags m
def openN (calls flags : Int) : Int := if openC flags = true then calls + 1 else calls

end Go.Proofs.YtfomkkoecelakaaDoor

/-
  Layer 6, plain: how great a disk may become. No program in sight.
-/
set_option maxRecDepth 100000
namespace Go.Proofs.YtfomkkoecelakaaDoor

theorem gc_massM (d : Nds) : mass (gc d) ≤ mass d := (gc_kills d).mass
theorem upd_mass {d : Nds} {i : Int} {n : Nd} (hi : has d i) (hm : mass1 n ≤ mass1 (nd d i) + 1) : mass (upd d i n) ≤ mass d + 1 := by
  have := mass_upd (n := n) hi
  omega
theorem upd_mass0 {d : Nds} {i : Int} {n : Nd} (hi : has d i) (hm : mass1 n ≤ mass1 (nd d i)) : mass (upd d i n) ≤ mass d := by
  have := mass_upd (n := n) hi
  omega

section
variable {d : Nds} {room : Int}
theorem holdD_mass (i : Int) : mass (holdD d i) ≤ mass d + 1 := by
  unfold holdD
  split
  · next hi => exact upd_mass (n := (nd d i).setHolds ((nd d i).holds + 1)) hi (by unfold mass1; simp only [Nd.setHolds]; omega)
  · omega
theorem chmodD_mass (i m : Int) : mass (chmodD d i m) ≤ mass d := by
  unfold chmodD
  split
  · next he =>
    have hi : has d i := by
      unfold chmodErr at he
      split at he
      · cases he
      · next h => exact h
    exact upd_mass0 (n := (nd d i).setMode m) hi (Nat.le_refl _)
  · exact Nat.le_refl _
theorem emptyD_mass (i : Int) : mass (emptyD d i) ≤ mass d := by
  unfold emptyD
  split
  · next hf => exact upd_mass0 (n := (nd d i).setData ⟨#[]⟩) (fileErr_zero hf).1 (Nat.le_refl _)
  · exact Nat.le_refl _
theorem writeTo_mass (i x : Int) (s : ByteArray) : mass (writeTo d room i x s) ≤ mass d := by
  unfold writeTo
  split
  · next he =>
    have hi : has d i := by
      have h1 := he.1
      unfold writeErr at h1
      split at h1
      · next e => exact absurd h1 e
      · next e => exact (fileErr_zero (Classical.not_not.1 e)).1
    exact upd_mass0 (n := writeNd (nd d i) x.toNat s) hi (Nat.le_refl _)
  · exact Nat.le_refl _
theorem leaveTo_mass (hI : DInv d) (i : Int) (name : ByteArray) : mass (leaveTo d i name) ≤ mass d := by
  unfold leaveTo
  split
  · next he =>
    have h0 : lookErr d i name = 0 := by
      unfold leaveErr at he
      split at he
      · next e => exact absurd he e
      · next e => exact Classical.not_not.1 e
    obtain ⟨f0, hg⟩ := lookErr_zero h0
    have := drop_mass hI (folderErr_zero f0).1 hg
    have := gc_massM (dropTo d i name)
    omega
  · exact Nat.le_refl _
theorem madeR_mass (p : Plc) (kind m : Int) (s : ByteArray) : mass (madeR d room p kind m s).1 ≤ mass d + 3 := by
  unfold madeR entrR
  split
  · exact Nat.le_add_right _ _
  · have h1 := relD_mass (d := enterD (d ++ [newNd kind m s]) room p.dir p.name d.length) (i := d.length)
    have h2 := enterD_mass (d := d ++ [newNd kind m s]) (room := room) (i := p.dir) (k := d.length) (name := p.name)
    rw [mass_made] at h2
    exact Nat.le_trans h1 h2
theorem mkdirR_mass (at' mask : Int) (s : ByteArray) (m : Int) : mass (mkdirR d room at' mask s m).1 ≤ mass d + 3 := by
  unfold mkdirR
  split
  · exact Nat.le_add_right _ _
  · exact madeR_mass _ _ _ _
theorem symR_mass (at' : Int) (t s : ByteArray) : mass (symR d room at' t s).1 ≤ mass d + 3 := by
  unfold symR
  split
  · exact Nat.le_add_right _ _
  split
  · exact Nat.le_add_right _ _
  · exact madeR_mass _ _ _ _
theorem linkR_mass (at' : Int) (o s : ByteArray) : mass (linkR d room at' o s).1 ≤ mass d + 1 := by
  unfold linkR
  split
  · exact Nat.le_add_right _ _
  split
  · exact Nat.le_add_right _ _
  split
  · exact Nat.le_add_right _ _
  · exact enterD_mass
theorem remR_mass (hI : DInv d) (at' : Int) (s : ByteArray) (folder : Bool) : mass (remR d at' s folder).1 ≤ mass d := by
  unfold remR
  split
  · exact Nat.le_refl _
  · exact leaveTo_mass hI _ _
theorem chmR_mass (at' : Int) (s : ByteArray) (m : Int) : mass (chmR d at' s m).1 ≤ mass d := by
  unfold chmR
  split
  · exact Nat.le_refl _
  · exact chmodD_mass _ _
theorem freshR_mass (mask : Int) (p : Plc) (s : ByteArray) (flags m : Int) : mass (freshR d room mask p s flags m).1 ≤ mass d + 3 := by
  have h2 := enterD_mass (d := d ++ [newNd 1 (freshM m mask) ⟨#[]⟩]) (room := room) (i := p.dir) (k := d.length) (name := p.name)
  rw [mass_made] at h2
  unfold freshR
  split
  · exact Nat.le_add_right _ _
  split
  · exact Nat.le_add_right _ _
  split
  · exact Nat.le_add_right _ _
  split
  · exact Nat.le_add_right _ _
  split
  · exact Nat.le_trans relD_mass h2
  · exact h2
theorem openedR_mass (id flags : Int) : mass (openedR d id flags).1 ≤ mass d + 1 := by
  unfold openedR
  split
  · exact Nat.le_add_right _ _
  · split
    · have h1 := holdD_mass (d := emptyD d id) id
      have h2 := emptyD_mass (d := d) id
      simp only
      omega
    · exact holdD_mass _
theorem openR_mass (at' mask : Int) (s : ByteArray) (flags m : Int) : mass (openR d room at' mask s flags m).1 ≤ mass d + 3 := by
  unfold openR
  split
  · exact Nat.le_add_right _ _
  split
  · exact freshR_mass _ _ _ _ _
  split
  · exact Nat.le_add_right _ _
  · have := openedR_mass (d := d) (fndR d at' s (!aloneF flags)).1.node flags
    omega
theorem openF_mass (calls fail at' mask : Int) (s : ByteArray) (flags m : Int) : mass (openF calls fail d room at' mask s flags m).1 ≤ mass d + 3 := by
  unfold openF
  split
  · exact Nat.le_add_right _ _
  · exact openR_mass _ _ _ _ _
theorem orFail_mass {calls fail : Int} {x : Nds × Int} {n : Nat} (h : mass x.1 ≤ mass d + n) : mass (orFail calls fail d x).1 ≤ mass d + n := by
  unfold orFail
  split
  · exact Nat.le_add_right _ _
  · exact h
end
end Go.Proofs.YtfomkkoecelakaaDoor

/-
  Layer 6, plain: what is made, entered and found where it goes well; the document's example. No program in sight.
-/
set_option maxRecDepth 100000
namespace Go.Proofs.YtfomkkoecelakaaDoor

section
variable {d : Nds} {room kind m : Int} {s : ByteArray} {p : Plc}

/-- A node that is made and entered. -/
theorem made_ok (hI : DInv d) (hcl : NoGarb d) (hne : p.dir ≠ d.length) (he : makeErr d room kind m s = 0) (hE : enterErr (d ++ [newNd kind m s]) room p.dir p.name d.length = 0) :
    (madeR d room p kind m s).2 = 0 ∧ (madeR d room p kind m s).1.length = d.length + 1 ∧
      ∀ j, nd (madeR d room p kind m s).1 j = if j = d.length then ⟨kind, m, 0, s, []⟩ else if j = p.dir then (nd d p.dir).setEnts (entPut (nd d p.dir).ents p.name d.length) else nd d j := by
  obtain ⟨k1, k2⟩ := makeErr_kind he
  have ht := hI.two
  unfold madeR entrR
  rw [if_neg (by rw [he]; simp)]
  simp only [hE, true_and]
  obtain ⟨pn, at', nm⟩ := p
  simp only at hne hE ⊢
  generalize hd1 : d ++ [newNd kind m s] = d1 at *
  have hn1 : ∀ j, nd d1 j = if j = d.length then newNd kind m s else nd d j := fun j => by rw [← hd1, nd_append]
  have hl1 : d1.length = d.length + 1 := by rw [← hd1]; simp
  obtain ⟨hf, hp⟩ := enterErr_folder hE
  have hat1 := (folderErr_has hf).1
  have hd2 : enterD d1 room at' nm d.length = enterTo d1 at' nm d.length := by unfold enterD; rw [if_pos hE]
  rw [hd2]
  have hn2 : ∀ j, nd (enterTo d1 at' nm d.length) j = if j = at' then (nd d at').setEnts (entPut (nd d at').ents nm d.length) else nd d1 j := fun j => by
    unfold enterTo
    rw [nd_setE hat1, hn1 at', if_neg hne]
  have hl2 : (enterTo d1 at' nm d.length).length = d.length + 1 := by unfold enterTo; rw [length_setE, hl1]
  have hnid : nd (enterTo d1 at' nm d.length) d.length = newNd kind m s := by rw [hn2, if_neg (fun e => hne e.symm), hn1, if_pos rfl]
  have hid : has (enterTo d1 at' nm d.length) d.length := by unfold has; rw [hnid]; show kind ≠ 0; omega
  have hr : relErr (enterTo d1 at' nm d.length) d.length = 0 := relErr_ok hid (by rw [hnid]; show (1 : Int) ≠ 0; decide)
  have hn3 : ∀ j, nd (relTo (enterTo d1 at' nm d.length) d.length) j = if j = d.length then ⟨kind, m, 0, s, []⟩ else if j = at' then (nd d at').setEnts (entPut (nd d at').ents nm d.length) else nd d j := fun j => by
    rw [nd_relTo hid, hnid, hn2, hn1]
    split
    · rfl
    · split
      · rfl
      · rfl
  have hhas : entHas (nd d at').ents nm = false := by
    rw [hn1, if_neg hne] at hp
    exact (putErr_zero.1 hp).2
  have hng : NoGarb (relTo (enterTo d1 at' nm d.length) d.length) := by
    rintro j ⟨h1, h2, h3⟩
    have hc : cnt (relTo (enterTo d1 at' nm d.length) d.length) j = 0 := by unfold links at h2; omega
    have hj1 : j ≠ 1 := fun e => by unfold links at h2; rw [if_pos e] at h2; omega
    have hno : ∀ i e, e ∈ (nd (relTo (enterTo d1 at' nm d.length) d.length) i).ents → e.2 ≠ j := fun i e hm h4 => by
      have := cnt_pos.2 ⟨i, e, hm, h4⟩
      omega
    by_cases hj : j = d.length
    · subst hj
      refine hno at' (nm, d.length) ?_ rfl
      rw [hn3, if_neg hne, if_pos rfl]
      exact (mem_entPut hhas _).2 (.inr rfl)
    · have hcd : cnt d j = 0 := Nat.eq_zero_of_not_pos fun hpos => by
        obtain ⟨i, e, hm, h4⟩ := cnt_pos.1 hpos
        refine hno i e ?_ h4
        have hi : i ≠ d.length := fun e1 => by
          rw [e1, nd_gone (by omega)] at hm
          cases hm
        rw [hn3, if_neg hi]
        split
        · next e1 => rw [e1] at hm; exact (mem_entPut hhas _).2 (.inl hm)
        · exact hm
      have hho : (nd d j).holds = 0 := by
        rw [hn3, if_neg hj] at h3
        split at h3
        · next e1 => rw [e1]; exact h3
        · exact h3
      refine hcl j ⟨?_, by unfold links; rw [if_neg hj1, hcd], hho⟩
      unfold has at h1 ⊢
      rw [hn3, if_neg hj] at h1
      split at h1
      · next e1 => rw [e1]; exact h1
      · exact h1
  have hres : relD (enterTo d1 at' nm d.length) d.length = relTo (enterTo d1 at' nm d.length) d.length := by
    unfold relD
    rw [if_pos hr, gc_same hng]
  rw [hres]
  refine ⟨?_, hn3⟩
  unfold relTo
  rw [upd_length, hl2]

/-- Simple tests for it. -/
theorem made_go (hI : DInv d) {at' : Int} {nm : ByteArray} (hk1 : 1 ≤ kind) (hk3 : kind ≤ 3) (hm : okMode m = true) (hd : kind = 2 → s.size = 0) (hz : s.size ≤ 4194304)
    (hn : okName nm = true) (hf : folderErr d at' = 0) (hno : entHas (nd d at').ents nm = false) (hc : count d < 65536) (hu : (used d : Int) + s.size + nm.size ≤ room) :
    at' ≠ d.length ∧ makeErr d room kind m s = 0 ∧ enterErr (d ++ [newNd kind m s]) room at' nm d.length = 0 := by
  have ht := hI.two
  have hfh := folderErr_has hf
  have hr := has_range hfh.1
  have hne : at' ≠ d.length := by omega
  have he : makeErr d room kind m s = 0 := by
    unfold makeErr
    rw [if_neg (by omega), if_neg (by omega), if_neg (fun h => h.2 (hd h.1)), if_neg (by rw [hm]; simp), if_neg (by omega), if_neg (by omega), if_neg (by omega)]
  refine ⟨hne, he, ?_⟩
  have hn1 : nd (d ++ [newNd kind m s]) d.length = newNd kind m s := by rw [nd_append, if_pos rfl]
  have hna : nd (d ++ [newNd kind m s]) at' = nd d at' := by rw [nd_append, if_neg hne]
  have hlk : links (d ++ [newNd kind m s]) d.length = 0 := by
    rw [links_append rfl]
    have := cnt_none hI (not_has_length d)
    unfold links
    rw [this, if_neg (by omega)]
  have hu1 : used (d ++ [newNd kind m s]) = used d + s.size := by rw [used_append]; rfl
  have hf1 : folderErr (d ++ [newNd kind m s]) at' = 0 := by
    unfold folderErr at hf ⊢
    rw [hna]
    exact hf
  unfold enterErr
  rw [if_neg (by rw [hf1]; simp), hn1, hlk, hna, if_neg (by show ¬ kind = 0; omega), if_neg (by simp), if_neg (by decide), if_neg (by rw [putErr_zero.2 ⟨hn, hno⟩]; simp), if_neg (by rw [hu1]; omega)]

/-- A file that is made and entered stays held. -/
theorem fresh_ok {mask flags : Int} {t : ByteArray} (h4 : flg flags 4 = true) (hs : endS t = false) (hmy : mayE d p.dir 128 = 0) (hne : p.dir ≠ d.length) (he : makeErr d room 1 (freshM m mask) ⟨#[]⟩ = 0)
    (hE : enterErr (d ++ [newNd 1 (freshM m mask) ⟨#[]⟩]) room p.dir p.name d.length = 0) :
    (freshR d room mask p t flags m).2 = ((d.length : Int), 0) ∧ (freshR d room mask p t flags m).1.length = d.length + 1 ∧
      ∀ j, nd (freshR d room mask p t flags m).1 j = if j = d.length then ⟨1, freshM m mask, 1, ⟨#[]⟩, []⟩ else if j = p.dir then (nd d p.dir).setEnts (entPut (nd d p.dir).ents p.name d.length) else nd d j := by
  unfold freshR
  rw [if_neg (by rw [h4]; simp), if_neg (by rw [hs]; simp), if_neg (by rw [hmy]; simp), if_neg (by rw [he]; simp), if_neg (by rw [hE]; simp)]
  obtain ⟨hf, _⟩ := enterErr_folder hE
  have hat1 := (folderErr_has hf).1
  have hn1 : ∀ j, nd (d ++ [newNd 1 (freshM m mask) ⟨#[]⟩]) j = if j = d.length then newNd 1 (freshM m mask) ⟨#[]⟩ else nd d j := fun j => by rw [nd_append]
  have hd2 : enterD (d ++ [newNd 1 (freshM m mask) ⟨#[]⟩]) room p.dir p.name d.length = enterTo (d ++ [newNd 1 (freshM m mask) ⟨#[]⟩]) p.dir p.name d.length := by unfold enterD; rw [if_pos hE]
  simp only
  rw [hd2]
  refine ⟨by first | rfl | trivial, by unfold enterTo; rw [length_setE]; simp, fun j => ?_⟩
  unfold enterTo
  rw [nd_setE hat1, hn1 p.dir, if_neg hne, hn1]
  by_cases h1 : j = p.dir
  · rw [if_pos h1, if_neg (fun e => hne (h1.symm.trans e)), if_pos h1]
  · rw [if_neg h1, if_neg h1]
    rfl

end

section
variable {d : Nds} {up : Int → Int} {s a b : ByteArray} {follow : Bool}

/-- One name in the root, which is no link or is not followed. -/
theorem find_1 (hin : intoErr d 1 = 0) (hp : pathErr s = 0) (hl : prts s = [a]) (hs : endS s = false) (ha : absB s = false) (h1 : ¬ a = dotB) (h2 : ¬ a = dotsB) (h3 : a.size ≤ 255) (hk : ∀ k, entGet (nd d 1).ents a = some k → (nd d k).kind ≠ 3) (fuel n : Nat) :
    findR d up follow (fuel + 1) 1 s n = (⟨(entGet (nd d 1).ents a).getD 0, 1, a⟩, 0) := by
  rw [findR, if_neg (by rw [hp]; simp), hl, if_neg (by simp), hs, ha]
  simp only [Bool.false_eq_true, if_false]
  cases hg : entGet (nd d 1).ents a with
  | none =>
    rw [scan_one (slash := false) (follow := follow) (step_none (up := up) (n := n) hin h1 h2 h3 hg), if_neg (by simp), if_neg (by simp)]
    simp [endR]
  | some k =>
    have hst := step_look (up := up) (n := n) (fl := follow) hin h1 h2 h3 hg
    have hq : stepR d up 1 a (false || follow) n = ⟨⟨k, 1, a⟩, ⟨#[]⟩, 0, n⟩ := by
      rw [Bool.false_or, hst]
      cases follow
      · simp
      · simp [hk k hg]
    rw [scan_one (slash := false) (follow := follow) hq, if_neg (by simp), if_neg (by simp)]
    simp [endR]

/-- A name in a directory of the root. -/
theorem find_2 (hin : intoErr d 1 = 0) (hp : pathErr s = 0) (hl : prts s = [a, b]) (hs : endS s = false) (ha : absB s = false) (h1 : ¬ a = dotB) (h2 : ¬ a = dotsB) (h3 : a.size ≤ 255) (g1 : ¬ b = dotB) (g2 : ¬ b = dotsB) (g3 : b.size ≤ 255)
    {k : Int} (hg : entGet (nd d 1).ents a = some k) (hk0 : k ≠ 0) (hk2 : (nd d k).kind ≠ 3) (hin2 : intoErr d k = 0) (hk : ∀ j, entGet (nd d k).ents b = some j → (nd d j).kind ≠ 3) (fuel n : Nat) :
    findR d up follow (fuel + 1) 1 s n = (⟨(entGet (nd d k).ents b).getD 0, k, b⟩, 0) := by
  rw [findR, if_neg (by rw [hp]; simp), hl, if_neg (by simp), hs, ha]
  simp only [Bool.false_eq_true, if_false]
  have hq : ∀ fl, stepR d up 1 a fl n = ⟨⟨k, 1, a⟩, ⟨#[]⟩, 0, n⟩ := fun fl => by
    rw [step_look hin h1 h2 h3 hg]
    cases fl
    · simp
    · simp [hk2]
  rw [scan]
  simp only [hq]
  rw [if_neg (by simp), if_neg (by simp), if_neg (fun h => hk0 h.1)]
  cases hg2 : entGet (nd d k).ents b with
  | none =>
    rw [scan_one (slash := false) (follow := follow) (step_none (up := up) (n := n) hin2 g1 g2 g3 hg2), if_neg (by simp), if_neg (by simp)]
    simp [endR]
  | some j =>
    have hst := step_look (up := up) (n := n) (fl := follow) hin2 g1 g2 g3 hg2
    have hq2 : stepR d up k b (false || follow) n = ⟨⟨j, k, b⟩, ⟨#[]⟩, 0, n⟩ := by
      rw [Bool.false_or, hst]
      cases follow
      · simp
      · simp [hk j hg2]
    rw [scan_one (slash := false) (follow := follow) hq2, if_neg (by simp), if_neg (by simp)]
    simp [endR]
end

-- the document's example
theorem anc6_a : (mkdirR newD 100 1 18 ⟨#[100]⟩ 511).2 = 0 ∧ (mkdirR newD 100 1 18 ⟨#[100]⟩ 511).1.length = 3 ∧
    ∀ j, nd (mkdirR newD 100 1 18 ⟨#[100]⟩ 511).1 j = if j = 2 then ⟨2, 493, 0, ⟨#[]⟩, []⟩ else if j = 1 then ⟨2, 493, 0, ⟨#[]⟩, [(⟨#[100]⟩, 2)]⟩ else Nd.gone := by
  have n1 : nd newD 1 = rootNd := by rw [nd_new, if_pos rfl]
  have hin : intoErr newD 1 = 0 := by unfold intoErr folderErr; rw [n1]; decide
  have hf : fndR newD 1 ⟨#[100]⟩ false = (⟨0, 1, ⟨#[100]⟩⟩, 0) := by
    have := find_1 (d := newD) (up := upC newD) (s := ⟨#[100]⟩) (a := ⟨#[100]⟩) (follow := false) hin (by decide) (by decide) (by decide) (by decide) (by decide) (by decide) (by decide) (fun k hk => by rw [n1] at hk; cases hk) 40 0
    rw [n1] at this
    exact this
  have hmy : mayE newD 1 128 = 0 := by unfold mayE; rw [if_neg (by rw [has_new]; simp), n1]; decide
  have hfr : freeR newD 1 ⟨#[100]⟩ true = (⟨0, 1, ⟨#[100]⟩⟩, 0) := by
    unfold freeR
    rw [hf, if_neg (by simp), if_neg (by simp), if_neg (by simp), hmy]
  obtain ⟨g1, g2, g3⟩ := made_go (d := newD) (room := 100) (kind := 2) (m := freshM 511 18) (s := ⟨#[]⟩) (at' := 1) (nm := ⟨#[100]⟩) inv_new (by decide) (by decide) (by decide) (by decide) (by decide) (by decide)
    (by unfold folderErr; rw [n1]; decide) (by rw [n1]; decide) (by rw [count_new]; decide) (by rw [used_new]; decide)
  obtain ⟨h1, h2, h3⟩ := made_ok (p := ⟨0, 1, ⟨#[100]⟩⟩) inv_new noGarb_new g1 g2 g3
  unfold mkdirR
  rw [hfr, if_neg (by simp)]
  refine ⟨h1, h2, fun j => ?_⟩
  rw [h3]
  show (if j = ((newD.length : Nat) : Int) then _ else _) = _
  by_cases j2 : j = 2
  · rw [if_pos (by rw [j2]; rfl), if_pos j2]
    exact congrArg (fun x => Nd.mk 2 x 0 ⟨#[]⟩ []) (by decide : freshM 511 18 = 493)
  rw [if_neg (by simpa [newD] using j2), if_neg j2]
  by_cases j1 : j = 1
  · rw [if_pos j1, if_pos j1, n1]
    exact congrArg (Nd.mk 2 493 0 ⟨#[]⟩) (by decide : entPut [] ⟨#[100]⟩ ((newD.length : Nat) : Int) = [((⟨#[100]⟩ : ByteArray), (2 : Int))])
  · rw [if_neg j1, if_neg j1, nd_new, if_neg j1]

theorem anc6_b {d : Nds} (hI : DInv d) (hs : smallD d) (hl : d.length = 3) (hN : ∀ j, nd d j = if j = 2 then ⟨2, 493, 0, ⟨#[]⟩, []⟩ else if j = 1 then ⟨2, 493, 0, ⟨#[]⟩, [(⟨#[100]⟩, 2)]⟩ else Nd.gone) :
    (openR d 100 1 18 ⟨#[100, 47, 120]⟩ 6 438).2 = (3, 0) ∧
      ∀ j, nd (openR d 100 1 18 ⟨#[100, 47, 120]⟩ 6 438).1 j = if j = 3 then ⟨1, 420, 1, ⟨#[]⟩, []⟩ else if j = 2 then ⟨2, 493, 0, ⟨#[]⟩, [(⟨#[120]⟩, 3)]⟩ else if j = 1 then ⟨2, 493, 0, ⟨#[]⟩, [(⟨#[100]⟩, 2)]⟩ else Nd.gone := by
  have n1 := hN 1
  rw [if_neg (by decide), if_pos rfl] at n1
  have n2 := hN 2
  rw [if_pos rfl] at n2
  have hin : intoErr d 1 = 0 := by unfold intoErr folderErr; rw [n1]; decide
  have hin2 : intoErr d 2 = 0 := by unfold intoErr folderErr; rw [n2]; decide
  have hal : aloneF 6 = false := by decide
  have hf : fndR d 1 ⟨#[100, 47, 120]⟩ true = (⟨0, 2, ⟨#[120]⟩⟩, 0) := by
    have := find_2 (d := d) (up := upC d) (s := ⟨#[100, 47, 120]⟩) (a := ⟨#[100]⟩) (b := ⟨#[120]⟩) (follow := true) hin (by decide) (by decide) (by decide) (by decide) (by decide) (by decide) (by decide) (by decide) (by decide) (by decide) (k := 2) (by rw [n1]; decide) (by decide) (by rw [n2]; decide) hin2 (fun k hk => by rw [n2] at hk; cases hk) 40 0
    rw [n2] at this
    exact this
  have hmy : mayE d 2 128 = 0 := by unfold mayE; rw [if_neg (by unfold has; rw [n2]; decide), n2]; decide
  have hd : d = [Nd.gone, ⟨2, 493, 0, ⟨#[]⟩, [(⟨#[100]⟩, 2)]⟩, ⟨2, 493, 0, ⟨#[]⟩, []⟩] := by
    refine Nds.ext hl fun j => ?_
    rw [hN]
    by_cases j0 : 0 ≤ j
    · obtain ⟨n, rfl⟩ := Int.eq_ofNat_of_zero_le j0
      match n with
      | 0 => rfl
      | 1 => rfl
      | 2 => rfl
      | n + 3 =>
        rw [if_neg (by omega), if_neg (by omega), nd_gone (by simp; omega)]
    · rw [if_neg (by omega), if_neg (by omega), nd_gone (by omega)]
  have hu : used d = 1 := by rw [hd]; decide
  have hc : count d = 2 := by rw [hd]; decide
  obtain ⟨g1, g2, g3⟩ := made_go (d := d) (room := 100) (kind := 1) (m := freshM 438 18) (s := ⟨#[]⟩) (at' := 2) (nm := ⟨#[120]⟩) hI (by decide) (by decide) (by decide) (by decide) (by decide) (by decide)
    (by unfold folderErr; rw [n2]; decide) (by rw [n2]; decide) (by rw [hc]; decide) (by rw [hu]; decide)
  obtain ⟨h1, h2, h3⟩ := fresh_ok (d := d) (room := 100) (p := ⟨0, 2, ⟨#[120]⟩⟩) (m := 438) (mask := 18) (flags := 6) (t := ⟨#[100, 47, 120]⟩) (by decide) (by decide) hmy g1 g2 g3
  unfold openR
  rw [hal]
  simp only [Bool.not_false]
  rw [hf, if_neg (by simp), if_pos rfl]
  refine ⟨by rw [h1, hl]; rfl, fun j => ?_⟩
  rw [h3, hl]
  by_cases j3 : j = 3
  · rw [if_pos (by rw [j3]; rfl), if_pos j3]
    exact congrArg (fun x => Nd.mk 1 x 1 ⟨#[]⟩ []) (by decide : freshM 438 18 = 420)
  rw [if_neg (by simpa using j3), if_neg j3]
  by_cases j2 : j = 2
  · rw [if_pos j2, if_pos j2, n2]
    rfl
  · rw [if_neg j2, if_neg j2, hN, if_neg j2]

theorem anc6_c {d : Nds} (hN : ∀ j, nd d j = if j = 3 then ⟨1, 420, 1, ⟨#[]⟩, []⟩ else if j = 2 then ⟨2, 493, 0, ⟨#[]⟩, [(⟨#[120]⟩, 3)]⟩ else if j = 1 then ⟨2, 493, 0, ⟨#[]⟩, [(⟨#[100]⟩, 2)]⟩ else Nd.gone) :
    thrR d 1 ⟨#[100]⟩ true = (⟨2, 1, ⟨#[100]⟩⟩, 0) ∧ thrR d 1 ⟨#[100, 47, 120]⟩ true = (⟨3, 2, ⟨#[120]⟩⟩, 0) := by
  have n1 := hN 1
  rw [if_neg (by decide), if_neg (by decide), if_pos rfl] at n1
  have n2 := hN 2
  rw [if_neg (by decide), if_pos rfl] at n2
  have n3 := hN 3
  rw [if_pos rfl] at n3
  have hin : intoErr d 1 = 0 := by unfold intoErr folderErr; rw [n1]; decide
  have hin2 : intoErr d 2 = 0 := by unfold intoErr folderErr; rw [n2]; decide
  have hf1 : fndR d 1 ⟨#[100]⟩ true = (⟨2, 1, ⟨#[100]⟩⟩, 0) := by
    have := find_1 (d := d) (up := upC d) (s := ⟨#[100]⟩) (a := ⟨#[100]⟩) (follow := true) hin (by decide) (by decide) (by decide) (by decide) (by decide) (by decide) (by decide) (fun k hk => by
      rw [n1] at hk
      have : k = 2 := (Option.some.inj ((show entGet [((⟨#[100]⟩ : ByteArray), (2 : Int))] ⟨#[100]⟩ = some 2 by decide).symm.trans hk)).symm
      rw [this, n2]; decide) 40 0
    rw [n1] at this
    exact this
  have hf2 : fndR d 1 ⟨#[100, 47, 120]⟩ true = (⟨3, 2, ⟨#[120]⟩⟩, 0) := by
    have := find_2 (d := d) (up := upC d) (s := ⟨#[100, 47, 120]⟩) (a := ⟨#[100]⟩) (b := ⟨#[120]⟩) (follow := true) hin (by decide) (by decide) (by decide) (by decide) (by decide) (by decide) (by decide) (by decide) (by decide) (by decide) (k := 2) (by rw [n1]; decide) (by decide) (by rw [n2]; decide) hin2 (fun k hk => by
      rw [n2] at hk
      have : k = 3 := (Option.some.inj ((show entGet [((⟨#[120]⟩ : ByteArray), (3 : Int))] ⟨#[120]⟩ = some 3 by decide).symm.trans hk)).symm
      rw [this, n3]; decide) 40 0
    rw [n2] at this
    exact this
  unfold thrR
  rw [hf1, hf2]
  unfold thereR
  exact ⟨by rw [if_neg (by simp), if_neg (by simp)], by rw [if_neg (by simp), if_neg (by simp)]⟩

end Go.Proofs.YtfomkkoecelakaaDoor
