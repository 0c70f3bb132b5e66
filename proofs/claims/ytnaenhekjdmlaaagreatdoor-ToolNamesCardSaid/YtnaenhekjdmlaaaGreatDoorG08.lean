/-
  Layer 5, plain: the rings and rows of links, and the document's example. No program in sight.
-/
import Derived.Test.YtnaenhekjdmlaaaGreatDoorG07
import Derived.Test.YtnaenhekjdmlaaaGreatDoorG03
import Derived.Test.YtnaenhekjdmlaaaGreatDoorG01
import Derived.BigQuiet
import Derived.Deep.QuietTactic
import Derived.Test.YtnaenhekjdmlaaaGreatDoorG02
import Derived.Test.YtnaenhekjdmlaaaGreatDoorG04

set_option linter.unusedSimpArgs false
set_option linter.unusedVariables false
set_option maxRecDepth 100000
namespace Go.Proofs.YtnaenhekjdmlaaaGreatDoor
theorem into_dir {d : Nds} {i : Int} (h : intoErr d i = 0) : folderErr d i = 0 := by
 unfold intoErr at h
 exact Classical.byContradiction fun hf => by rw [if_pos hf] at h; exact hf h
section
variable {d : Nds} {up : Int -> Int} {at' : Int} {x : ByteArray} {n : Nat}
theorem step_look (hin : intoErr d at' = 0) (h1 : ¬ x = dotB) (h2 : ¬ x = dotsB) (h3 : x.size <= 255) {fl : Bool} {k : Int} (hg : entGet (nd d at').ents x = some k) :
 stepR d up at' x fl n = if fl = false then ⟨⟨k, at', x⟩, ⟨#[]⟩, 0, n⟩ else if (nd d k).kind ≠ 3 then ⟨⟨k, at', x⟩, ⟨#[]⟩, 0, n⟩ else if 40 < n + 1 then ⟨.no, ⟨#[]⟩, 17, n + 1⟩ else ⟨⟨k, at', x⟩, dataOf d k, 0, n + 1⟩ := by
 have hf := into_dir hin
 have hl : lookErr d at' x = 0 := by unfold lookErr; rw [if_neg (by rw [hf]; simp), hg]; rfl
 have ho : lookOf d at' x = k := by unfold lookOf; rw [if_neg (by rw [hf]; simp), hg]; rfl
 unfold stepR
 rw [if_neg (by rw [hin]; simp), if_neg h1, if_neg h2, if_neg (by omega), hl, ho]
 cases fl
 ·simp
 ·rw [if_neg (by simp)]
  simp
theorem step_none (hin : intoErr d at' = 0) (h1 : ¬ x = dotB) (h2 : ¬ x = dotsB) (h3 : x.size <= 255) {fl : Bool} (hg : entGet (nd d at').ents x = none) :
 stepR d up at' x fl n = ⟨⟨0, at', x⟩, ⟨#[]⟩, 0, n⟩ := by
 have hf := into_dir hin
 have hl : lookErr d at' x ≠ 0 := by unfold lookErr; rw [if_neg (by rw [hf]; simp), hg]; simp
 have ho : lookOf d at' x = 0 := by unfold lookOf; rw [if_neg (by rw [hf]; simp), hg]; rfl
 unfold stepR
 rw [if_neg (by rw [hin]; simp), if_neg h1, if_neg h2, if_neg (by omega), if_pos (.inl hl), ho]
theorem scan_one {slash follow : Bool} {q : StepR} {p : Plc} (hs : stepR d up at' x (slash || follow) n = q) :
 scan d up slash follow [x] at' n p = if q.e ≠ 0 then .err q.e else if q.t ≠ ⟨#[]⟩ then .again at' (restB q.t [] slash) q.n else .fin q.p := by
 unfold scan
 simp only [List.isEmpty_nil, Bool.not_true, Bool.false_or, hs]
 by_cases h1 : q.e ≠ 0
 ·rw [if_pos h1, if_pos h1]
 rw [if_neg h1, if_neg h1]
 by_cases h2 : q.t ≠ ⟨#[]⟩
 ·rw [if_pos h2, if_pos h2]
 rw [if_neg h2, if_neg h2, if_neg (fun h => h.2 rfl)]
 rfl
end
-- the document's example
section
variable {d : Nds} {room kind m : Int} {s : ByteArray} {p : Plc}
theorem made_ok (hI : DInv d) (hcl : NoGarb d) (hne : p.dir ≠ d.length) (he : makeErr d room kind m s = 0) (hE : enterErr (d ++ [newNd kind m s]) room p.dir p.name d.length = 0) :
 (madeR d room p kind m s).2 = 0 ∧ (madeR d room p kind m s).1.length = d.length + 1 ∧
   ∀ j, nd (madeR d room p kind m s).1 j = if j = d.length then ⟨kind, m, 0, s, []⟩ else if j = p.dir then (nd d p.dir).setEnts (entPut (nd d p.dir).ents p.name d.length) else nd d j := by
 obtain ⟨k1, k2⟩ := makeErr_kind he
 have ht := hI.two
 unfold madeR entrR
 rw [if_neg (by rw [he]; simp)]
 simp only [hE, true_and]
 obtain ⟨pn, at', nm⟩ := p
 simp only at hne hE ⊢
 generalize hd1 : d ++ [newNd kind m s] = d1 at *
 have hn1 : ∀ j, nd d1 j = if j = d.length then newNd kind m s else nd d j := fun j => by rw [<- hd1, nd_append]
 have hl1 : d1.length = d.length + 1 := by rw [<- hd1]; simp
 obtain ⟨hf, hp⟩ := enterErr_folder hE
 have hat1 := (folderErr_has hf).1
 have hd2 : enterD d1 room at' nm d.length = enterTo d1 at' nm d.length := by unfold enterD; rw [if_pos hE]
 rw [hd2]
 have hn2 : ∀ j, nd (enterTo d1 at' nm d.length) j = if j = at' then (nd d at').setEnts (entPut (nd d at').ents nm d.length) else nd d1 j := fun j => by
  unfold enterTo
  rw [nd_setE hat1, hn1 at', if_neg hne]
 have hl2 : (enterTo d1 at' nm d.length).length = d.length + 1 := by unfold enterTo; rw [length_setE, hl1]
 have hnid : nd (enterTo d1 at' nm d.length) d.length = newNd kind m s := by rw [hn2, if_neg (fun e => hne e.symm), hn1, if_pos rfl]
 have hid : has (enterTo d1 at' nm d.length) d.length := by unfold has; rw [hnid]; show kind ≠ 0; omega
 have hr : relErr (enterTo d1 at' nm d.length) d.length = 0 := relErr_ok hid (by rw [hnid]; show (1 : Int) ≠ 0; decide)
 have hn3 : ∀ j, nd (relTo (enterTo d1 at' nm d.length) d.length) j = if j = d.length then ⟨kind, m, 0, s, []⟩ else if j = at' then (nd d at').setEnts (entPut (nd d at').ents nm d.length) else nd d j := fun j => by
  rw [nd_relTo hid, hnid, hn2, hn1]
  split
  ·rfl
  ·split
   ·rfl
   ·rfl
 have hhas : entHas (nd d at').ents nm = false := by
  rw [hn1, if_neg hne] at hp
  exact (putErr_zero.1 hp).2
 have hng : NoGarb (relTo (enterTo d1 at' nm d.length) d.length) := by
  rintro j ⟨h1, h2, h3⟩
  have hc : cnt (relTo (enterTo d1 at' nm d.length) d.length) j = 0 := by unfold links at h2; omega
  have hj1 : j ≠ 1 := fun e => by unfold links at h2; rw [if_pos e] at h2; omega
  have hno : ∀ i e, e ∈ (nd (relTo (enterTo d1 at' nm d.length) d.length) i).ents -> e.2 ≠ j := fun i e hm h4 => by
   have := cnt_pos.2 ⟨i, e, hm, h4⟩
   omega
  by_cases hj : j = d.length
  ·subst hj
   refine hno at' (nm, d.length) ?_ rfl
   rw [hn3, if_neg hne, if_pos rfl]
   exact (mem_entPut hhas _).2 (.inr rfl)
  ·have hcd : cnt d j = 0 := Nat.eq_zero_of_not_pos fun hpos => by
    obtain ⟨i, e, hm, h4⟩ := cnt_pos.1 hpos
    refine hno i e ?_ h4
    have hi : i ≠ d.length := fun e1 => by
     rw [e1, nd_gone (by omega)] at hm
     cases hm
    rw [hn3, if_neg hi]
    split
    ·next e1 => rw [e1] at hm; exact (mem_entPut hhas _).2 (.inl hm)
    ·exact hm
   have hho : (nd d j).holds = 0 := by
    rw [hn3, if_neg hj] at h3
    split at h3
    ·next e1 => rw [e1]; exact h3
    ·exact h3
   refine hcl j ⟨?_, by unfold links; rw [if_neg hj1, hcd], hho⟩
   unfold has at h1 ⊢
   rw [hn3, if_neg hj] at h1
   split at h1
   ·next e1 => rw [e1]; exact h1
   ·exact h1
 have hres : relD (enterTo d1 at' nm d.length) d.length = relTo (enterTo d1 at' nm d.length) d.length := by
  unfold relD
  rw [if_pos hr, gc_same hng]
 rw [hres]
 refine ⟨?_, hn3⟩
 unfold relTo
 rw [upd_length, hl2]
theorem made_go (hI : DInv d) {at' : Int} {nm : ByteArray} (hk1 : 1 <= kind) (hk3 : kind <= 3) (hm : okMode m = true) (hd : kind = 2 -> s.size = 0) (hz : s.size <= 4194304)
 (hn : okName nm = true) (hf : folderErr d at' = 0) (hno : entHas (nd d at').ents nm = false) (hc : count d < 65536) (hu : (used d : Int) + s.size + nm.size <= room) :
 at' ≠ d.length ∧ makeErr d room kind m s = 0 ∧ enterErr (d ++ [newNd kind m s]) room at' nm d.length = 0 := by
 have ht := hI.two
 have hfh := folderErr_has hf
 have hr := has_range hfh.1
 have hne : at' ≠ d.length := by omega
 have he : makeErr d room kind m s = 0 := by
  unfold makeErr
  rw [if_neg (by omega), if_neg (by omega), if_neg (fun h => h.2 (hd h.1)), if_neg (by rw [hm]; simp), if_neg (by omega), if_neg (by omega), if_neg (by omega)]
 refine ⟨hne, he, ?_⟩
 have hn1 : nd (d ++ [newNd kind m s]) d.length = newNd kind m s := by rw [nd_append, if_pos rfl]
 have hna : nd (d ++ [newNd kind m s]) at' = nd d at' := by rw [nd_append, if_neg hne]
 have hlk : links (d ++ [newNd kind m s]) d.length = 0 := by
  rw [links_append rfl]
  have := cnt_none hI (not_has_length d)
  unfold links
  rw [this, if_neg (by omega)]
 have hu1 : used (d ++ [newNd kind m s]) = used d + s.size := by rw [used_append]; rfl
 have hf1 : folderErr (d ++ [newNd kind m s]) at' = 0 := by
  unfold folderErr at hf ⊢
  rw [hna]
  exact hf
 unfold enterErr
 rw [if_neg (by rw [hf1]; simp), hn1, hlk, hna, if_neg (by show ¬ kind = 0; omega), if_neg (by simp), if_neg (by decide), if_neg (by rw [putErr_zero.2 ⟨hn, hno⟩]; simp), if_neg (by rw [hu1]; omega)]
end
section
variable {d : Nds} {up : Int -> Int} {s a b : ByteArray} {follow : Bool}
theorem find_1 (hin : intoErr d 1 = 0) (hp : pathErr s = 0) (hl : prts s = [a]) (hs : endS s = false) (ha : absB s = false) (h1 : ¬ a = dotB) (h2 : ¬ a = dotsB) (h3 : a.size <= 255) (hk : ∀ k, entGet (nd d 1).ents a = some k -> (nd d k).kind ≠ 3) (fuel n : Nat) :
 findR d up follow (fuel + 1) 1 s n = (⟨(entGet (nd d 1).ents a).getD 0, 1, a⟩, 0) := by
 rw [findR, if_neg (by rw [hp]; simp), hl, if_neg (by simp), hs, ha]
 simp only [Bool.false_eq_true, if_false]
 cases hg : entGet (nd d 1).ents a with
 | none =>
   rw [scan_one (slash := false) (follow := follow) (step_none (up := up) (n := n) hin h1 h2 h3 hg), if_neg (by simp), if_neg (by simp)]
   simp [endR]
 | some k =>
   have hst := step_look (up := up) (n := n) (fl := follow) hin h1 h2 h3 hg
   have hq : stepR d up 1 a (false || follow) n = ⟨⟨k, 1, a⟩, ⟨#[]⟩, 0, n⟩ := by
    rw [Bool.false_or, hst]
    cases follow
    ·simp
    ·simp [hk k hg]
   rw [scan_one (slash := false) (follow := follow) hq, if_neg (by simp), if_neg (by simp)]
   simp [endR]
theorem find_2 (hin : intoErr d 1 = 0) (hp : pathErr s = 0) (hl : prts s = [a, b]) (hs : endS s = false) (ha : absB s = false) (h1 : ¬ a = dotB) (h2 : ¬ a = dotsB) (h3 : a.size <= 255) (g1 : ¬ b = dotB) (g2 : ¬ b = dotsB) (g3 : b.size <= 255)
 {k : Int} (hg : entGet (nd d 1).ents a = some k) (hk0 : k ≠ 0) (hk2 : (nd d k).kind ≠ 3) (hin2 : intoErr d k = 0) (hk : ∀ j, entGet (nd d k).ents b = some j -> (nd d j).kind ≠ 3) (fuel n : Nat) :
 findR d up follow (fuel + 1) 1 s n = (⟨(entGet (nd d k).ents b).getD 0, k, b⟩, 0) := by
 rw [findR, if_neg (by rw [hp]; simp), hl, if_neg (by simp), hs, ha]
 simp only [Bool.false_eq_true, if_false]
 have hq : ∀ fl, stepR d up 1 a fl n = ⟨⟨k, 1, a⟩, ⟨#[]⟩, 0, n⟩ := fun fl => by
  rw [step_look hin h1 h2 h3 hg]
  cases fl
  ·simp
  ·simp [hk2]
 rw [scan]
 simp only [hq]
 rw [if_neg (by simp), if_neg (by simp), if_neg (fun h => hk0 h.1)]
 cases hg2 : entGet (nd d k).ents b with
 | none =>
   rw [scan_one (slash := false) (follow := follow) (step_none (up := up) (n := n) hin2 g1 g2 g3 hg2), if_neg (by simp), if_neg (by simp)]
   simp [endR]
 | some j =>
   have hst := step_look (up := up) (n := n) (fl := follow) hin2 g1 g2 g3 hg2
   have hq2 : stepR d up k b (false || follow) n = ⟨⟨j, k, b⟩, ⟨#[]⟩, 0, n⟩ := by
    rw [Bool.false_or, hst]
    cases follow
    ·simp
    ·simp [hk j hg2]
   rw [scan_one (slash := false) (follow := follow) hq2, if_neg (by simp), if_neg (by simp)]
   simp [endR]
end
-- the document's example
end Go.Proofs.YtnaenhekjdmlaaaGreatDoor
namespace Go.Proofs.YtnaenhekjdmlaaaGreatDoor
open Go Go.RowKit
theorem kset (w : World) (p : Addr) (u : Value) : Keeps (fun x => x = p.block) w (w.setCell p u) := Keeps.setCell (p := p) (Keeps.refl (fun x => x = p.block) w) (Or.inl rfl) u
theorem ba_eq {a b : ByteArray} (h : a.data.toList = b.data.toList) : a = b := ByteArray.ext (Array.toList_inj.1 h)
section
variable {w w' : World} {B : Nat} {l : List Value}
end
structure PD (N : Nat -> Prop) (w : World) (a : Nat) (d : Nds) (room : Int) : Prop where
 low : ∀ x, N x -> x < w.heap.size
 ex : ∃ R : RD, IsDisk R w a d room ∧ ∀ x, N x -> R.tag x = .none
section
variable {N : Nat -> Prop} {w w' : World} {a : Nat} {d d' : Nds} {room : Int}
theorem PD.inv (h : PD N w a d room) : DInv d := by obtain ⟨R, h1, _⟩ := h.ex; exact h1.inv
theorem PD.clean (h : PD N w a d room) : NoGarb d := by obtain ⟨R, h1, _⟩ := h.ex; exact h1.clean
theorem PD.small (h : PD N w a d room) : smallD d := by obtain ⟨R, h1, _⟩ := h.ex; exact h1.small
theorem tag_top {R : RD} (h : IsDisk R w a d room) : ∀ x, w.heap.size <= x -> R.tag x = .none := by
 obtain ⟨⟨lk, up, hC⟩, _, _, _⟩ := h
 exact hC.rep.top
theorem HereTo.pd {W : World} (h : HereTo W w a d room) : PD (fun g => g < W.heap.size) w a d room := by
 obtain ⟨R, h⟩ := h
 exact ⟨fun x hx => Nat.lt_of_lt_of_le hx h.keeps.size, R, h.disk, h.tag⟩
theorem PD.grow {N' F : Nat -> Prop} (h : PD N w a d room) (k : Keeps F w w') (hF : ∀ x, x < w.heap.size -> F x -> N x) (hN : ∀ x, N' x -> N x ∨ (w.heap.size <= x ∧ x < w'.heap.size)) : PD N' w' a d room := by
 obtain ⟨R, h1, h2⟩ := h.ex
 have hs := k.size
 refine ⟨fun x hx => ?_, R, h1.keep k (fun x hl hx => h2 x (hF x hl hx)), fun x hx => ?_⟩
 ·rcases hN x hx with h4 | h4
  ·exact Nat.lt_of_lt_of_le (h.low x h4) hs
  ·exact h4.2
 ·rcases hN x hx with h4 | h4
  ·exact h2 x h4
  ·exact tag_top h1 x h4.1
theorem PD.keep {F : Nat -> Prop} (h : PD N w a d room) (k : Keeps F w w') (hF : ∀ x, x < w.heap.size -> F x -> N x) : PD N w' a d room := h.grow k hF (fun _ hx => .inl hx)
theorem PD.on (h : PD N w a d room) (k : Keeps NoB w w') : PD N w' a d room := h.keep k (fun _ _ hx => hx.elim)
theorem PD.less {N' : Nat -> Prop} (h : PD N w a d room) (hN : ∀ x, N' x -> N x) : PD N' w a d room := h.grow (Keeps.refl NoB w) (fun _ _ hx => hx.elim) (fun x hx => .inl (hN x hx))
theorem PD.prog {f : Nat} {args : Array Value} {E : Ending} (h : PD N w a d room) (hc : ∀ R, IsDisk R w a d room -> Calls Tryz.prog f args w fun e w' => e = E ∧ DiskTo R w a d' room w') :
 Calls Tryz.prog f args w fun e w' => e = E ∧ PD N w' a d' room ∧ Keeps (fun g => ¬ N g) w w' := by
 obtain ⟨R, h1, h2⟩ := h.ex
 refine (hc R h1).mono ?_
 rintro e w' ⟨rfl, R', h4, h5⟩
 have hs := h5.keeps.size
 exact ⟨rfl, ⟨fun x hx => Nat.lt_of_lt_of_le (h.low x hx) hs, R', h4, fun x hx => by rw [h5.same x (h.low x hx)]; exact h2 x hx⟩, h5.keeps.mono (fun x _ hx hN => hx (h2 x hN))⟩
theorem PD.tells {f : Nat} {args : Array Value} {Q : Ending -> World -> Prop} (h : PD N w a d room)
 (hc : ∀ R lk up, Rep R w a d room (used d) lk up -> (∀ i, has d i -> lk i = ((links d i : Nat) : Int)) -> UpEq d up (upC d) -> Calls Tryz.prog f args w Q) : Calls Tryz.prog f args w Q := by
 obtain ⟨R, ⟨⟨lk, up, hC⟩, _, _, _⟩, h2⟩ := h.ex
 have hlk : ∀ i, has d i -> lk i = ((links d i : Nat) : Int) := fun i hi => by have := hC.cnt i hi; simpa [zp] using this
 refine hc R lk up hC.rep hlk fun i hf => ?_
 obtain ⟨hi, hk⟩ := folderErr_zero hf
 obtain ⟨p1, p2, p3⟩ := hC.upok i hi
 by_cases h1 : i = 1
 ·subst h1
  rw [p2 rfl]
  unfold upC
  rw [if_pos rfl]
 ·by_cases hp : ∃ j, Par d j i
  ·obtain ⟨j, hj⟩ := hp
   rw [p1 j hj, upC_par hC.inv h1 hj (fun ha hb => hC.inv.par_one ha hb)]
  ·rw [upC_none h1 hp]
   refine p3 ?_
   rw [hlk i hi]
   have : cnt d i = 0 := Nat.eq_zero_of_not_pos fun h0 => by
    obtain ⟨j, e, he, hei⟩ := cnt_pos.1 h0
    exact hp ⟨j, hk, e, he, hei⟩
   unfold links
   rw [this, if_neg h1]
   rfl
end
structure FSt (N : Nat -> Prop) (w : World) (F a : Nat) (d : Nds) (room calls fail : Int) : Prop where
 pd : PD (fun g => N g ∨ g = F) w a d room
 notN : ¬ N F
 c0 : w.cell? ⟨F, 0, none⟩ = some (.pointer (some ⟨a, 0, none⟩))
 c1 : w.cell? ⟨F, 1, none⟩ = some (.int .i64 calls)
 c2 : w.cell? ⟨F, 2, none⟩ = some (.int .i64 fail)
 fz : ∀ j, w.frozen? ⟨F, j, none⟩ = false
section
variable {N : Nat -> Prop} {w w' : World} {F a : Nat} {d d' : Nds} {room calls fail : Int}
theorem FSt.lt (h : FSt N w F a d room calls fail) : F < w.heap.size := h.pd.low F (.inr rfl)
theorem FSt.low (h : FSt N w F a d room calls fail) (x : Nat) (hx : N x) : x < w.heap.size := h.pd.low x (.inl hx)
theorem FSt.turn {G : Nat -> Prop} (h : FSt N w F a d room calls fail) (hp : PD (fun g => N g ∨ g = F) w' a d' room) (k : Keeps G w w') (hG : ¬ G F) : FSt N w' F a d' room calls fail :=
 ⟨hp, h.notN, (k.cell (p := ⟨F, 0, none⟩) h.lt hG).trans h.c0, (k.cell (p := ⟨F, 1, none⟩) h.lt hG).trans h.c1, (k.cell (p := ⟨F, 2, none⟩) h.lt hG).trans h.c2, fun j => (k.frozen (p := ⟨F, j, none⟩) h.lt hG).trans (h.fz j)⟩
theorem FSt.keep {G : Nat -> Prop} (h : FSt N w F a d room calls fail) (k : Keeps G w w') (hG : ∀ x, G x -> N x) : FSt N w' F a d room calls fail :=
 h.turn (h.pd.keep k (fun x _ hx => .inl (hG x hx))) k (fun hx => h.notN (hG F hx))
theorem FSt.on (h : FSt N w F a d room calls fail) (k : Keeps NoB w w') : FSt N w' F a d room calls fail := h.keep k (fun _ hx => hx.elim)
theorem FSt.more (h : FSt N w F a d room calls fail) (k : Keeps NoB w w') (b : Nat) (h1 : w.heap.size <= b) (h2 : b < w'.heap.size) : FSt (fun g => N g ∨ g = b) w' F a d room calls fail := by
 have h3 := h.on k
 have hl := h.lt
 refine ⟨h.pd.grow k (fun _ _ hx => hx.elim) (fun x hx => ?_), fun hx => hx.elim h.notN (fun e => by omega), h3.c0, h3.c1, h3.c2, h3.fz⟩
 rcases hx with (hx | rfl) | rfl
 ·exact .inl (.inl hx)
 ·exact .inr ⟨h1, h2⟩
 ·exact .inl (.inr rfl)
theorem FSt.less {N' : Nat -> Prop} (h : FSt N w F a d room calls fail) (hN : ∀ x, N' x -> N x) : FSt N' w F a d room calls fail :=
 ⟨h.pd.less (fun x hx => hx.elim (fun hx => .inl (hN x hx)) .inr), fun hx => h.notN (hN F hx), h.c0, h.c1, h.c2, h.fz⟩
theorem FSt.called (h : FSt N w F a d room calls fail) (c' : Int) : FSt N (w.setCell ⟨F, 1, none⟩ (.int .i64 c')) F a d room c' fail := by
 have k := keeps_set w ⟨F, 1, none⟩ (.int .i64 c')
 have a0 := cell_set (g := F) (k := 1) (u := .int .i64 c') (j := 0) h.c0
 have a1 := cell_set (g := F) (k := 1) (u := .int .i64 c') (j := 1) h.c1
 have a2 := cell_set (g := F) (k := 1) (u := .int .i64 c') (j := 2) h.c2
 rw [if_neg (by decide)] at a0
 rw [if_pos rfl] at a1
 rw [if_neg (by decide)] at a2
 exact ⟨h.pd.keep k (fun x _ hx => .inr hx), h.notN, a0, a1, a2, fun j => (frozen_set _ _ _ _).trans (h.fz j)⟩
theorem FSt.prog {f : Nat} {args : Array Value} {E : Ending} (h : FSt N w F a d room calls fail) (hc : ∀ R, IsDisk R w a d room -> Calls Tryz.prog f args w fun e w' => e = E ∧ DiskTo R w a d' room w') :
 Calls Tryz.prog f args w fun e w' => e = E ∧ FSt N w' F a d' room calls fail ∧ Keeps (fun g => ¬ (N g ∨ g = F)) w w' := by
 refine (h.pd.prog hc).mono ?_
 rintro e w' ⟨rfl, h1, h2⟩
 exact ⟨rfl, h.turn h1 h2 (fun hx => hx (.inr rfl)), h2⟩
theorem FSt.find (h : FSt N w F a d room calls fail) (from' : Int) (s : ByteArray) (follow : Bool) (hsz : s.size <= 4294967280) :
 Calls Tryz.prog 48 #[.pointer (some ⟨a, 0, none⟩), .int .i64 from', .string s, .bool follow] w fun e w' =>
  e = .returned (.tuple #[plcV (findR d (upC d) follow 41 from' s 0).1, .int .i64 (findR d (upC d) follow 41 from' s 0).2]) ∧ Keeps NoB w w' :=
 h.pd.tells fun R lk up hR _ hup => by
  rw [<- find_up hup]
  exact wfind_any hR h.pd.inv h.pd.small from' s follow hsz
theorem FSt.there (h : FSt N w F a d room calls fail) (from' : Int) (s : ByteArray) (follow : Bool) (hsz : s.size <= 4294967280) :
 Calls Tryz.prog 53 #[.pointer (some ⟨a, 0, none⟩), .int .i64 from', .string s, .bool follow] w fun e w' =>
  e = .returned (.tuple #[plcV (thereR (findR d (upC d) follow 41 from' s 0)).1, .int .i64 (thereR (findR d (upC d) follow 41 from' s 0)).2]) ∧ Keeps NoB w w' :=
 h.pd.tells fun R lk up hR _ hup => by
  rw [<- find_up hup]
  exact wthere_any hR h.pd.inv h.pd.small from' s follow hsz
def infoAt (d : Nds) (i : Int) : Value := if has d i then infoV (nd d i) ((links d i : Nat) : Int) else noInfo
theorem FSt.info (h : FSt N w F a d room calls fail) (i : Int) :
 Calls Tryz.prog 64 #[.pointer (some ⟨a, 0, none⟩), .int .i64 i] w fun e w' => e = .returned (.tuple #[infoAt d i, .int .i64 (if has d i then 0 else 12)]) ∧ Keeps NoB w w' :=
 h.pd.tells fun R lk up hR hlk _ => by
  have := info_any hR i
  unfold infoAt
  by_cases hi : has d i
  ·rw [if_pos hi, if_pos hi] at this ⊢
   rw [<- hlk i hi]
   exact this
  ·rw [if_neg hi, if_neg hi] at this ⊢
   exact this
end
set_option maxHeartbeats 4000000
section
variable {N : Nat -> Prop} {w w' : World} {F a : Nat} {d d' : Nds} {room calls fail : Int}
structure Bx (w : World) (B : Nat) (l : List Value) : Prop where
 lt : B < w.heap.size
 cell : ∀ i v, l[i]? = some v -> w.cell? ⟨B, i, none⟩ = some v
 fz : ∀ j, w.frozen? ⟨B, j, none⟩ = false
theorem Bx.new {cs : Array Value} {T : TypeId} (k : Keeps NoB (w.alloc (.cells cs T)) w') : Bx w' w.heap.size cs.toList :=
 ⟨Nat.lt_of_lt_of_le (by simp) k.size, fun i v hv => boxed k i v (by rw [<- Array.getElem?_toList]; exact hv), boxedz k⟩
theorem Bx.keep {G : Nat -> Prop} {B : Nat} {l : List Value} (h : Bx w B l) (k : Keeps G w w') (hB : ¬ G B) : Bx w' B l :=
 ⟨Nat.lt_of_lt_of_le h.lt k.size, fun i v hv => (k.cell (p := ⟨B, i, none⟩) h.lt hB).trans (h.cell i v hv), fun j => (k.frozen (p := ⟨B, j, none⟩) h.lt hB).trans (h.fz j)⟩
theorem Bx.on {B : Nat} {l : List Value} (h : Bx w B l) (k : Keeps NoB w w') : Bx w' B l := h.keep k (fun h => h)
theorem Bx.newD {cs : Array Value} {T : TypeId} (k : Keeps NoB (w.alloc (.cells cs T)).drew w') : Bx w' w.heap.size cs.toList := Bx.new ((Keeps.refl NoB _).drew.trans k)
theorem Bx.put {B : Nat} {l : List Value} (h : Bx w B l) (i : Nat) (v : Value) : Bx (w.setCell ⟨B, i, none⟩ v) B (l.set i v) := by
 refine ⟨by simpa using h.lt, fun j u hu => ?_, fun j => (frozen_set _ _ _ _).trans (h.fz j)⟩
 rw [List.getElem?_set] at hu
 split at hu
 ·next e =>
  subst e
  split at hu
  ·next hl =>
   cases hu
   have := cell_set (g := B) (k := i) (u := v) (j := i) (h.cell i _ (List.getElem?_eq_getElem hl))
   rw [if_pos rfl] at this
   exact this
  ·cases hu
 ·next e =>
  have := cell_set (g := B) (k := i) (u := v) (j := j) (h.cell j u hu)
  rw [if_neg (fun x => e x.symm)] at this
  exact this
theorem FSt.thr (h : FSt N w F a d room calls fail) (from' : Int) (s : ByteArray) (follow : Bool) (hsz : s.size <= 4294967280) :
 Calls Tryz.prog 53 #[.pointer (some ⟨a, 0, none⟩), .int .i64 from', .string s, .bool follow] w fun e w' =>
  e = .returned (.tuple #[plcV (thrR d from' s follow).1, .int .i64 (thrR d from' s follow).2]) ∧ Keeps NoB w w' := h.there from' s follow hsz
theorem FSt.wider (h : FSt N w F a d room calls fail) (k : Keeps NoB w w') : ∃ N1 : Nat -> Prop, (∀ g, N g -> N1 g) ∧ (∀ g, w.heap.size <= g -> g < w'.heap.size -> N1 g) ∧ FSt N1 w' F a d room calls fail := by
 have h3 := h.on k
 have hl := h.lt
 refine ⟨fun g => N g ∨ (w.heap.size <= g ∧ g < w'.heap.size), fun g hg => .inl hg, fun g h1 h2 => .inr ⟨h1, h2⟩, h.pd.grow k (fun _ _ hx => hx.elim) (fun x hx => ?_), fun hx => hx.elim h.notN (fun e => by omega), h3.c0, h3.c1, h3.c2, h3.fz⟩
 rcases hx with (hx | hx) | rfl
 ·exact .inl (.inl hx)
 ·exact .inr hx
 ·exact .inl (.inr rfl)
def FTo (N : Nat -> Prop) (w : World) (F a : Nat) (d' : Nds) (room calls' fail : Int) (V : Value) : Ending -> World -> Prop := fun e w' =>
 e = .returned V ∧ FSt N w' F a d' room calls' fail ∧ Keeps (fun g => ¬ N g) w w'
theorem FSt.prog2 {f : Nat} {args : Array Value} {V : Value} (h : FSt N w F a d room calls fail) (hc : ∀ R, IsDisk R w a d room -> Calls Tryz.prog f args w fun e w' => e = .returned V ∧ DiskTo R w a d' room w') :
 Calls Tryz.prog f args w (FTo N w F a d' room calls fail V) :=
 (h.prog hc).mono fun e w' ⟨h1, h2, h3⟩ => ⟨h1, h2, h3.mono fun x _ hx hN => hx (.inl hN)⟩
theorem call_any (h : FSt N w F a d room calls fail) (h0 : 0 <= calls) (h1 : calls <= 4611686018427387904) :
 Calls Tryz.prog 47 #[.pointer (some ⟨F, 0, none⟩)] w (FTo N w F a d room (calls + 1) fail (.int .i64 (callE calls fail))) := by
 have FS := h
 have hw1 : IntKind.i64.wrap (calls + 1) = calls + 1 := by rw [IntKind.wrap_i64]; omega
 have hw2 : IntKind.i64.wrap (calls + 1 - 1) = calls := by rw [IntKind.wrap_i64]; omega
 have hk : Keeps (fun g => ¬ N g) w (w.setCell ⟨F, 1, none⟩ (.int .i64 (calls + 1))) := (Keeps.refl _ _).setCell (p := ⟨F, 1, none⟩) (.inl h.notN) _
 have HC := h.called (calls + 1)
 have f0 := FS.c0; have f1 := FS.c1; have f2 := FS.c2; have fz := FS.fz; have fl := FS.lt
 clear h
 go_enter Tryz.func47, Tryz.ntmps47
 go_upto_region 2 with fail
 clear f0 f1 f2 fz fl
 clear FS
 have FS := HC
 have f0 := FS.c0; have f1 := FS.c1; have f2 := FS.c2; have fz := FS.fz; have fl := FS.lt
 generalize w.setCell ⟨F, 1, none⟩ (.int .i64 (calls + 1)) = w2 at *
 by_cases hc : calls = fail
 ·have hb : (calls == fail) = true := by simpa using hc
  go_quiet (fail)
  go_wp2
  go_ret
  exact ⟨ret_i64 (by unfold callE; rw [if_pos hc]), FS.on ((Keeps.refl _ _).drewN _), hk.trans ((Keeps.refl _ _).drewN _)⟩
 ·have hb : (calls == fail) = false := by simpa using hc
  go_quiet (fail)
  go_wp2
  go_ret
  exact ⟨ret_i64 (by unfold callE; rw [if_neg hc]), FS.on ((Keeps.refl _ _).drewN _), hk.trans ((Keeps.refl _ _).drewN _)⟩
theorem fresh_any (m mask : Int) (w : World) :
 Calls Tryz.prog 67 #[.int .i64 m, .int .i64 mask] w fun e w' => e = .returned (.int .i64 (freshM m mask)) ∧ w = w' := by
 go_enter Tryz.func67, Tryz.ntmps67
 go_wp2
 go_ret
 exact ⟨rfl, rfl⟩
theorem FSt.tell (h : FSt N w F a d room calls fail) (i : Int) :
 ∃ k m l hh z : Int, k = (nd d i).kind ∧ (has d i -> m = (nd d i).mode) ∧ (¬ has d i -> m = 0) ∧ infoAt d i = .agg #[.int .i64 k, .int .i64 m, .int .i64 l, .int .i64 hh, .int .i64 z] := by
 by_cases hi : has d i
 ·exact ⟨_, _, _, _, _, rfl, fun _ => rfl, fun h => absurd hi h, by unfold infoAt infoV; rw [if_pos hi]⟩
 ·refine ⟨0, 0, 0, 0, 0, (not_has hi).symm ▸ rfl, fun h => absurd h hi, fun _ => rfl, by unfold infoAt noInfo; rw [if_neg hi]⟩
theorem bitsB (b : Nat) (n : Fin 4096) : (b = 64 ∨ b = 128 ∨ b = 256) -> (bits BinOp.and IntKind.i64 (n.val : Int) (b : Int) == 0) = decide ((n.val : Int) / (b : Int) % 2 = 0) := by
 rintro (rfl | rfl | rfl)
 ·revert n; decide +kernel
 ·revert n; decide +kernel
 ·revert n; decide +kernel
theorem bitsB_of (b : Nat) (hb : b = 64 ∨ b = 128 ∨ b = 256) (m : Int) (h0 : 0 <= m) (h1 : m <= 4095) : (bits BinOp.and IntKind.i64 m (b : Int) == 0) = decide (m / (b : Int) % 2 = 0) := by
 have := bitsB b ⟨m.toNat, by omega⟩ hb
 simp only [Int.toNat_of_nonneg h0] at this
 exact this
theorem may_any (h : FSt N w F a d room calls fail) (i : Int) (b : Nat) (hb : b = 64 ∨ b = 128 ∨ b = 256) :
 Calls Tryz.prog 100 #[.pointer (some ⟨F, 0, none⟩), .int .i64 i, .int .i64 (b : Int)] w fun e w' => e = .returned (.int .i64 (mayE d i b)) ∧ Keeps NoB w w' := by
 obtain ⟨k, m, l, hh, z, hk, hm, hm0, he⟩ := h.tell i
 have HI := Lib.hid (h.info i)
 have HE := Lib.hid (show mayE d i b = if ¬ has d i then 12 else if (bits BinOp.and IntKind.i64 m (b : Int) == 0) = true then 19 else 0 by
  unfold mayE
  by_cases hi : has d i
  ·rw [hm hi, bitsB_of b hb _ ((h.pd.inv.node i).mode0) ((h.pd.inv.node i).mode1)]
   simp [hi]
  ·simp [hi])
 have HH : has d i ∨ ¬ has d i := Classical.em _
 have FS := h
 have f0 := FS.c0; have f1 := FS.c1; have f2 := FS.c2; have fz := FS.fz; have fl := FS.lt
 clear h hk hm hm0
 rw [he] at HI
 generalize (b : Int) = bb at *
 rcases HH with hi | hi
 ·simp only [if_pos hi] at HI
  go_enter Tryz.func100, Tryz.ntmps100
  go_wp2_with (go_at_call 64; go_loud (refine HI.out.mono ?_); rintro e w2 ⟨rfl, hk2⟩)
  all_goals
   go_ret
   refine ⟨ret_i64 ?_, hk2.alloc _⟩
   rw [HE.out, if_neg (by simpa using hi)]
   simp_all
 ·simp only [if_neg hi] at HI
  go_enter Tryz.func100, Tryz.ntmps100
  go_wp2_with (go_at_call 64; go_loud (refine HI.out.mono ?_); rintro e w2 ⟨rfl, hk2⟩)
  all_goals
   go_ret
   refine ⟨ret_i64 ?_, hk2.alloc _⟩
   rw [HE.out, if_pos hi]
end
end Go.Proofs.YtnaenhekjdmlaaaGreatDoor
