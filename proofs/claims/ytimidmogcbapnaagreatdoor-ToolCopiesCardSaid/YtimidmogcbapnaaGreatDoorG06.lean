/-
  The plain laws of ways through directories: what Find answers, as the program goes. No program in sight.
-/
import Derived.Test.YtimidmogcbapnaaGreatDoorG01
import Derived.Test.YtimidmogcbapnaaGreatDoorG05
import Derived.Test.YtimidmogcbapnaaGreatDoorG03
import Derived.Deep.RegionLaw
import Derived.Test.YtimidmogcbapnaaGreatDoorG02
import Derived.BigQuiet
import Derived.Deep.QuietTactic
import Derived.Handy
import Derived.Deep.RegionWith
import Derived.Deep.CutRange
import Derived.Laws.ResultCell
import Derived.Lib.SlFresh

set_option linter.unusedSimpArgs false
set_option linter.unusedVariables false
set_option maxRecDepth 100000
namespace Go.Proofs.YtimidmogcbapnaaGreatDoor
structure Plc where
 node : Int
 dir : Int
 name : ByteArray
def Plc.no : Plc := ⟨0, 0, ⟨#[]⟩⟩
def Plc.on (i : Int) : Plc := ⟨i, 0, ⟨#[]⟩⟩
def plcV (p : Plc) : Value := .agg #[.int .i64 p.node, .int .i64 p.dir, .string p.name]
def intoErr (d : Nds) (i : Int) : Int := if folderErr d i ≠ 0 then folderErr d i else if (nd d i).mode / 64 % 2 = 0 then 19 else 0
structure StepR where
 p : Plc
 t : ByteArray
 e : Int
 n : Nat
abbrev dotB : ByteArray := ⟨#[46]⟩
abbrev dotsB : ByteArray := ⟨#[46, 46]⟩
def stepR (d : Nds) (up : Int -> Int) (at' : Int) (x : ByteArray) (follow : Bool) (n : Nat) : StepR :=
 if intoErr d at' ≠ 0 then ⟨.no, ⟨#[]⟩, intoErr d at', n⟩
 else if x = dotB then ⟨.on at', ⟨#[]⟩, 0, n⟩
 else if x = dotsB then ⟨.on (up at'), ⟨#[]⟩, 0, n⟩
 else if 255 < x.size then ⟨.no, ⟨#[]⟩, 18, n⟩
 else if lookErr d at' x ≠ 0 ∨ follow = false then ⟨⟨lookOf d at' x, at', x⟩, ⟨#[]⟩, 0, n⟩
 else if (nd d (lookOf d at' x)).kind ≠ 3 then ⟨⟨lookOf d at' x, at', x⟩, ⟨#[]⟩, 0, n⟩
 else if 40 < n + 1 then ⟨.no, ⟨#[]⟩, 17, n + 1⟩
 else ⟨⟨lookOf d at' x, at', x⟩, dataOf d (lookOf d at' x), 0, n + 1⟩
def restB (t : ByteArray) (l : List ByteArray) (slash : Bool) : ByteArray :=
 if slash && !endS (l.foldl joinB t) then l.foldl joinB t ++ slashB else l.foldl joinB t
inductive Out where
 | fin (p : Plc)
 | err (e : Int)
 | again (at' : Int) (s : ByteArray) (n : Nat)
def scan (d : Nds) (up : Int -> Int) (slash follow : Bool) : List ByteArray -> Int -> Nat -> Plc -> Out
 | [], _, _, p => .fin p
 | x :: r, at', n, _ =>
   let q := stepR d up at' x (!r.isEmpty || slash || follow) n
   if q.e ≠ 0 then .err q.e
   else if q.t ≠ ⟨#[]⟩ then .again at' (restB q.t r slash) q.n
   else if q.p.node = 0 ∧ r ≠ [] then .err 12
   else scan d up slash follow r q.p.node q.n q.p
def endR (d : Nds) (p : Plc) (slash : Bool) : Plc × Int :=
 if slash = false ∨ p.node = 0 then (p, 0) else if (nd d p.node).kind ≠ 2 then (.no, 14) else (p, 0)
def pathErr (s : ByteArray) : Int := if s = ⟨#[]⟩ then 12 else if 4095 < s.size then 18 else if 0 <= bIdx s 0 then 11 else 0
def findR (d : Nds) (up : Int -> Int) (follow : Bool) : Nat -> Int -> ByteArray -> Nat -> Plc × Int
 | 0, _, _, _ => (.no, 17)
 | fuel + 1, from', s, n =>
   if pathErr s ≠ 0 then (.no, pathErr s)
   else if prts s = [] then (.on (if absB s then 1 else from'), intoErr d (if absB s then 1 else from'))
   else match scan d up (endS s) follow (prts s) (if absB s then 1 else from') n (.on from') with
    | .fin p => endR d p (endS s)
    | .err e => (.no, e)
    | .again at' s' n' => findR d up follow fuel at' s' n'
theorem stepR_n (d : Nds) (up : Int -> Int) (at' : Int) (x : ByteArray) (follow : Bool) (n : Nat) :
 n <= (stepR d up at' x follow n).n ∧ ((stepR d up at' x follow n).e = 0 -> (stepR d up at' x follow n).t ≠ ⟨#[]⟩ -> (stepR d up at' x follow n).n = n + 1 ∧ n + 1 <= 40) ∧ ((stepR d up at' x follow n).e = 0 -> n <= 40 -> (stepR d up at' x follow n).n <= 40) := by
 unfold stepR
 split
 ·exact ⟨Nat.le_refl _, fun h => absurd h (by assumption), fun h _ => absurd h (by assumption)⟩
 split
 ·exact ⟨Nat.le_refl _, fun _ h => absurd rfl h, fun _ h => h⟩
 split
 ·exact ⟨Nat.le_refl _, fun _ h => absurd rfl h, fun _ h => h⟩
 split
 ·exact ⟨Nat.le_refl _, fun h => absurd h (show ¬ (18 : Int) = 0 by decide), fun h => absurd h (show ¬ (18 : Int) = 0 by decide)⟩
 split
 ·exact ⟨Nat.le_refl _, fun _ h => absurd rfl h, fun _ h => h⟩
 split
 ·exact ⟨Nat.le_refl _, fun _ h => absurd rfl h, fun _ h => h⟩
 split
 ·exact ⟨Nat.le_succ _, fun h => absurd h (show ¬ (17 : Int) = 0 by decide), fun h => absurd h (show ¬ (17 : Int) = 0 by decide)⟩
 ·exact ⟨Nat.le_succ _, fun _ _ => ⟨rfl, by omega⟩, fun _ _ => by show n + 1 <= 40; omega⟩
theorem joinB_size (a b : ByteArray) : (joinB a b).size <= a.size + b.size + 1 := by
 unfold joinB
 split
 ·omega
 split
 ·rw [ByteArray.size_append]; omega
 ·rw [ByteArray.size_append, ByteArray.size_append]
  show a.size + 1 + b.size <= _
  omega
theorem fold_size (l : List ByteArray) (m : Nat) (hl : ∀ x ∈ l, x.size <= m) : ∀ t : ByteArray, (l.foldl joinB t).size <= t.size + l.length * (m + 1) := by
 induction l with
 | nil => intro t; simp
 | cons x r ih =>
   intro t
   have h1 := ih (fun y hy => hl y (by simp [hy])) (joinB t x)
   have h2 := joinB_size t x
   have h3 := hl x (by simp)
   rw [List.foldl_cons, List.length_cons, Nat.succ_mul]
   omega
theorem restB_size (t : ByteArray) (l : List ByteArray) (slash : Bool) (m : Nat) (hl : ∀ x ∈ l, x.size <= m) : (restB t l slash).size <= t.size + l.length * (m + 1) + 1 := by
 have := fold_size l m hl t
 unfold restB
 split
 ·rw [ByteArray.size_append]
  show _ + 1 <= _
  omega
 ·omega
noncomputable def upC (d : Nds) (i : Int) : Int := if i = 1 then 1 else @dite _ (∃ j, Par d j i) (Classical.propDecidable _) (fun h => Classical.choose h) (fun _ => 0)
theorem upC_par {d : Nds} (hI : DInv d) {i j : Int} (h1 : i ≠ 1) (h : Par d j i) (par_one : ∀ {i j j' : Int}, Par d j i -> Par d j' i -> j = j') : upC d i = j := by
 unfold upC
 rw [if_neg h1, dif_pos ⟨j, h⟩]
 exact par_one (Classical.choose_spec (⟨j, h⟩ : ∃ j, Par d j i)) h
theorem upC_none {d : Nds} {i : Int} (h1 : i ≠ 1) (h : ¬ ∃ j, Par d j i) : upC d i = 0 := by
 unfold upC
 rw [if_neg h1, dif_neg h]
def UpEq (d : Nds) (up up' : Int -> Int) : Prop := ∀ i, folderErr d i = 0 -> up i = up' i
section
variable {d : Nds} {up up' : Int -> Int}
theorem stepR_up (h : UpEq d up up') (at' : Int) (x : ByteArray) (fl : Bool) (n : Nat) : stepR d up at' x fl n = stepR d up' at' x fl n := by
 unfold stepR
 by_cases hi : intoErr d at' ≠ 0
 ·rw [if_pos hi, if_pos hi]
 ·have h0 : intoErr d at' = 0 := Classical.not_not.1 hi
  have hf : folderErr d at' = 0 := by
   unfold intoErr at h0
   exact Classical.byContradiction fun hf => by rw [if_pos hf] at h0; exact hf h0
  rw [if_neg hi, if_neg hi, h at' hf]
theorem scan_up (h : UpEq d up up') (slash follow : Bool) : ∀ (l : List ByteArray) (at' : Int) (n : Nat) (p : Plc), scan d up slash follow l at' n p = scan d up' slash follow l at' n p
 | [], _, _, _ => rfl
 | x :: r, at', n, p => by
   unfold scan
   rw [stepR_up h]
   simp only [scan_up h slash follow r]
theorem find_up (h : UpEq d up up') (follow : Bool) : ∀ (fuel : Nat) (from' : Int) (s : ByteArray) (n : Nat), findR d up follow fuel from' s n = findR d up' follow fuel from' s n
 | 0, _, _, _ => rfl
 | fuel + 1, from', s, n => by
   unfold findR
   rw [scan_up h]
   simp only [find_up h follow fuel]
end
end Go.Proofs.YtimidmogcbapnaaGreatDoor
namespace Go.Proofs.YtimidmogcbapnaaGreatDoor
open Go Go.RowKit
structure PD (N : Nat -> Prop) (w : World) (a : Nat) (d : Nds) (room : Int) : Prop where
 low : ∀ x, N x -> x < w.heap.size
 ex : ∃ R : RD, IsDisk R w a d room ∧ ∀ x, N x -> R.tag x = .none
section
variable {N : Nat -> Prop} {w w' : World} {a : Nat} {d d' : Nds} {room : Int}
theorem PD.inv (h : PD N w a d room) : DInv d := by obtain ⟨R, h1, _⟩ := h.ex; exact h1.inv
theorem PD.clean (h : PD N w a d room) : NoGarb d := by obtain ⟨R, h1, _⟩ := h.ex; exact h1.clean
theorem PD.small (h : PD N w a d room) : smallD d := by obtain ⟨R, h1, _⟩ := h.ex; exact h1.small
theorem tag_top {R : RD} (h : IsDisk R w a d room) : ∀ x, w.heap.size <= x -> R.tag x = .none := by
 obtain ⟨⟨lk, up, hC⟩, _, _, _⟩ := h
 exact hC.rep.top
theorem HereTo.pd {W : World} (h : HereTo W w a d room) : PD (fun g => g < W.heap.size) w a d room := by
 obtain ⟨R, h⟩ := h
 exact ⟨fun x hx => Nat.lt_of_lt_of_le hx h.keeps.size, R, h.disk, h.tag⟩
theorem PD.grow {N' F : Nat -> Prop} (h : PD N w a d room) (k : Keeps F w w') (hF : ∀ x, x < w.heap.size -> F x -> N x) (hN : ∀ x, N' x -> N x ∨ (w.heap.size <= x ∧ x < w'.heap.size)) : PD N' w' a d room := by
 obtain ⟨R, h1, h2⟩ := h.ex
 have hs := k.size
 refine ⟨fun x hx => ?_, R, h1.keep k (fun x hl hx => h2 x (hF x hl hx)), fun x hx => ?_⟩
 ·rcases hN x hx with h4 | h4
  ·exact Nat.lt_of_lt_of_le (h.low x h4) hs
  ·exact h4.2
 ·rcases hN x hx with h4 | h4
  ·exact h2 x h4
  ·exact tag_top h1 x h4.1
theorem PD.keep {F : Nat -> Prop} (h : PD N w a d room) (k : Keeps F w w') (hF : ∀ x, x < w.heap.size -> F x -> N x) : PD N w' a d room := h.grow k hF (fun _ hx => .inl hx)
theorem PD.on (h : PD N w a d room) (k : Keeps NoB w w') : PD N w' a d room := h.keep k (fun _ _ hx => hx.elim)
theorem PD.less {N' : Nat -> Prop} (h : PD N w a d room) (hN : ∀ x, N' x -> N x) : PD N' w a d room := h.grow (Keeps.refl NoB w) (fun _ _ hx => hx.elim) (fun x hx => .inl (hN x hx))
theorem PD.prog {f : Nat} {args : Array Value} {E : Ending} (h : PD N w a d room) (hc : ∀ R, IsDisk R w a d room -> Calls Tryz.prog f args w fun e w' => e = E ∧ DiskTo R w a d' room w') :
 Calls Tryz.prog f args w fun e w' => e = E ∧ PD N w' a d' room ∧ Keeps (fun g => ¬ N g) w w' := by
 obtain ⟨R, h1, h2⟩ := h.ex
 refine (hc R h1).mono ?_
 rintro e w' ⟨rfl, R', h4, h5⟩
 have hs := h5.keeps.size
 exact ⟨rfl, ⟨fun x hx => Nat.lt_of_lt_of_le (h.low x hx) hs, R', h4, fun x hx => by rw [h5.same x (h.low x hx)]; exact h2 x hx⟩, h5.keeps.mono (fun x _ hx hN => hx (h2 x hN))⟩
theorem PD.tells {f : Nat} {args : Array Value} {Q : Ending -> World -> Prop} (h : PD N w a d room)
 (hc : ∀ R lk up, Rep R w a d room (used d) lk up -> (∀ i, has d i -> lk i = ((links d i : Nat) : Int)) -> UpEq d up (upC d) -> Calls Tryz.prog f args w Q) : Calls Tryz.prog f args w Q := by
 obtain ⟨R, ⟨⟨lk, up, hC⟩, _, _, _⟩, h2⟩ := h.ex
 have hlk : ∀ i, has d i -> lk i = ((links d i : Nat) : Int) := fun i hi => by have := hC.cnt i hi; simpa [zp] using this
 refine hc R lk up hC.rep hlk fun i hf => ?_
 obtain ⟨hi, hk⟩ := folderErr_zero hf
 obtain ⟨p1, p2, p3⟩ := hC.upok i hi
 by_cases h1 : i = 1
 ·subst h1
  rw [p2 rfl]
  unfold upC
  rw [if_pos rfl]
 ·by_cases hp : ∃ j, Par d j i
  ·obtain ⟨j, hj⟩ := hp
   rw [p1 j hj, upC_par hC.inv h1 hj (fun ha hb => hC.inv.par_one ha hb)]
  ·rw [upC_none h1 hp]
   refine p3 ?_
   rw [hlk i hi]
   have : cnt d i = 0 := Nat.eq_zero_of_not_pos fun h0 => by
    obtain ⟨j, e, he, hei⟩ := cnt_pos.1 h0
    exact hp ⟨j, hk, e, he, hei⟩
   unfold links
   rw [this, if_neg h1]
   rfl
end
end Go.Proofs.YtimidmogcbapnaaGreatDoor
namespace Go.Proofs.YtimidmogcbapnaaGreatDoor
open Go.RowKit
theorem AboveR.trans {P : Int -> Int -> Prop} {a b c : Int} (h : AboveR P a b) (k : AboveR P b c) : AboveR P a c := by
 induction k with
 | self => exact h
 | step hp _ ih => exact .step hp ih
theorem acc_cycle {P : Int -> Int -> Prop} {i : Int} (h : Acc P i) : ∀ j, P j i -> AboveR P i j -> False := by
 induction h with
 | intro i _ ih =>
   intro j hj ha
   cases ha with
   | self => exact ih i hj i hj .self
   | step hp h2 => exact ih j hj _ hp (AboveR.trans (.step hj .self) h2)
theorem countP_lt {α : Type} {p q : α -> Bool} {l : List α} (h : ∀ x ∈ l, p x = true -> q x = true) (he : ∃ x ∈ l, q x = true ∧ p x = false) : l.countP p < l.countP q := by
 induction l with
 | nil => obtain ⟨x, hx, _⟩ := he; cases hx
 | cons a l ih =>
   rw [List.countP_cons, List.countP_cons]
   have hle : l.countP p <= l.countP q := List.countP_mono_left (fun x hx => h x (List.mem_cons_of_mem _ hx))
   obtain ⟨x, hx, h1, h2⟩ := he
   rcases List.mem_cons.1 hx with rfl | hx
   ·rw [h1, h2]; simp; omega
   ·have := ih (fun x hx => h x (List.mem_cons_of_mem _ hx)) ⟨x, hx, h1, h2⟩
    have ha := h a List.mem_cons_self
    cases h3 : p a with
    | false => simp only [Bool.false_eq_true, if_false, Nat.add_zero]; omega
    | true => rw [ha h3]; simp only [if_true]; omega
open Classical in
/-- How many directories are i, or above i. -/
noncomputable def ancs (d : Nds) (i : Int) : Nat := (List.range d.length).countP fun (k : Nat) => decide (Above d (k : Int) i)
theorem ancs_lt {d : Nds} (h : DInv d) {i j : Int} (hp : Par d j i) : ancs d j < ancs d i := by
 unfold ancs
 have hi : has d i := by unfold has; rw [hp.1]; decide
 have hr := has_range hi
 refine countP_lt (fun x _ hx => ?_) ⟨i.toNat, List.mem_range.2 hr.2, ?_, ?_⟩
 ·simp only [decide_eq_true_eq] at hx ⊢
  exact .step hp hx
 ·simp only [decide_eq_true_eq]
  rw [Int.toNat_of_nonneg hr.1]
  exact .self
 ·simp only [decide_eq_false_iff_not]
  rw [Int.toNat_of_nonneg hr.1]
  exact fun ha => acc_cycle (h.acyc i) j hp ha
theorem Par.dir {d : Nds} (h : DInv d) {j i : Int} (hp : Par d j i) : (nd d j).kind = 2 := by
 obtain ⟨_, e, he, _⟩ := hp
 refine Classical.byContradiction fun hk => ?_
 rw [(h.node j).flat hk] at he; cases he
theorem above_top {d : Nds} {k i : Int} (hno : ∀ j, ¬ Par d j i) : Above d k i ↔ k = i := by
 constructor
 ·intro h
  cases h with
  | self => rfl
  | step hp _ => exact absurd hp (hno _)
 ·rintro rfl; exact .self
theorem above_par {d : Nds} (h : DInv d) {k i j : Int} (hp : Par d j i) (hne : k ≠ i) : Above d k i ↔ Above d k j := by
 constructor
 ·intro ha
  cases ha with
  | self => exact absurd rfl hne
  | step hp2 h2 => rw [h.par_one hp hp2]; exact h2
 ·exact .step hp
theorem no_par_root {d : Nds} (h : DInv d) (j : Int) : ¬ Par d j 1 := fun ⟨_, e, he, h2⟩ => (h.tgt j e he).2 h2
theorem no_par_cnt {d : Nds} {i : Int} (hc : cnt d i = 0) (j : Int) : ¬ Par d j i := fun ⟨_, e, he, h2⟩ => by
 have := cnt_pos.2 ⟨j, e, he, h2⟩
 omega
set_option maxRecDepth 100000
set_option maxHeartbeats 1000000
def givesErr (d : Nds) (k old : Int) : Int :=
 if (nd d k).kind = 2 ∧ (nd d old).kind ≠ 2 then 14 else if (nd d k).kind ≠ 2 ∧ (nd d old).kind = 2 then 15 else if (nd d old).ents ≠ [] then 16 else 0
section
variable {R : RD} {w : World} {a : Nat} {d : Nds} {room us : Int} {lk up : Int -> Int}
theorem gives_any (h : Rep R w a d room us lk up) (hI : DInv d) (k old : Int) (hk : has d k) (ho : has d old) :
 Calls Tryz.prog 136 #[.pointer (some ⟨a, 0, none⟩), .pointer (some ⟨R.g k, 0, none⟩), .pointer (some ⟨R.g old, 0, none⟩)] w fun e w' => e = .returned (.int .i64 (givesErr d k old)) ∧ w = w' := by
 have c0 := (h.node k hk).kind
 have d0 := (h.node old ho).kind
 have hlen := Lib.hid (len_any (fun _ => True) w ⟨R.g old, 5, none⟩ (R.ev old) (nd d old).ents ((h.node old ho).dir.any (fun _ _ => trivial)))
 have hflat := (hI.node old).flat
 unfold givesErr
 have he : (nd d old).ents ≠ [] ↔ 0 < (nd d old).ents.length := by rw [List.length_pos_iff]
 have hf2 : (nd d old).kind ≠ 2 -> ¬ 0 < (nd d old).ents.length := fun h2 => by rw [hflat h2]; simp
 simp only [he]
 clear h hI he hflat
 generalize (nd d old).ents.length = ln at *
 generalize (nd d k).kind = kk at *
 generalize (nd d old).kind = ko at *
 have hb : ∀ x : Int, (x = 2 ∧ (x == 2) = true ∧ (x != 2) = false) ∨ (x ≠ 2 ∧ (x == 2) = false ∧ (x != 2) = true) := fun x => by
  by_cases h : x = 2
  ·exact .inl ⟨h, by simpa using h, by simpa using h⟩
  ·exact .inr ⟨h, by simpa using h, by simpa using h⟩
 have hl : (0 < ln ∧ (0 : Int) < (ln : Int)) ∨ (¬ 0 < ln ∧ ¬ (0 : Int) < (ln : Int)) := by omega
 rcases hb kk with ⟨a1, a2, a3⟩ | ⟨a1, a2, a3⟩ <;> rcases hb ko with ⟨b1, b2, b3⟩ | ⟨b1, b2, b3⟩ <;> rcases hl with ⟨l1, l2⟩ | ⟨l1, l2⟩
 all_goals first | exact absurd l1 (hf2 b1) | skip
 all_goals
  simp only [a1, b1, l1, ne_eq, not_true_eq_false, not_false_eq_true, and_true, and_false, true_and, false_and, if_true, if_false]
  clear hb hf2
  (try subst a1)
  (try subst b1)
  go_enter Tryz.func136, Tryz.ntmps136
  go_wp2_with (go_at_call 81; refine hlen.out.mono ?_; rintro e w1 ⟨rfl, rfl⟩)
  go_ret
  exact ⟨rfl, rfl⟩
open Classical in
noncomputable def muB (d : Nds) (x : Int) : Nat := if x = 0 then 0 else ancs d x + 1
def SaysW (w w' : World) (e : Ending) (P : Prop) : Prop := ∃ b : Bool, e = .returned (.bool b) ∧ (b = true ↔ P) ∧ w = w'
theorem up_step (hI : DInv d) (hup : UpOk d lk up) (hcnt : ∀ i, has d i -> lk i = (links d i : Nat)) (top i x : Int) (hx : (nd d x).kind = 2) (hne : x ≠ top) (h1 : x ≠ 1) (hiff : Above d top x ↔ Above d top i) :
 (((nd d (up x)).kind = 2 ∧ (Above d top (up x) ↔ Above d top i)) ∨ (up x = 0 ∧ ¬ Above d top i)) ∧ muB d (up x) < muB d x := by
 have hh := setE_pos hI hx
 have hp := hI.pos hh
 obtain ⟨u1, u2, u3⟩ := hup x hh
 have hmx : muB d x = ancs d x + 1 := by unfold muB; rw [if_neg (by omega)]
 by_cases hc : cnt d x = 0
 ·have h0 := u3 (by rw [hcnt x hh]; unfold links; rw [hc, if_neg h1]; rfl)
  refine ⟨.inr ⟨h0, fun ha => ?_⟩, ?_⟩
  ·exact hne ((above_top (no_par_cnt hc)).1 (hiff.2 ha)).symm
  ·rw [h0, hmx]; unfold muB; rw [if_pos rfl]; omega
 ·obtain ⟨j, e, he, h2⟩ := cnt_pos.1 (Nat.pos_of_ne_zero hc)
  have hP : Par d j x := ⟨hx, e, he, h2⟩
  have hu := u1 j hP
  rw [hu]
  have hl := ancs_lt hI hP
  refine ⟨.inl ⟨hP.dir hI, ?_⟩, ?_⟩
  ·rw [<- hiff, above_par hI hP (fun e => hne e.symm)]
  ·rw [hmx]; unfold muB; split <;> omega
theorem below_any {pend : Int -> Nat} (hC : Casc R w a d room lk up pend) (hz : pend = zp) (i top : Int) (hi : (nd d i).kind = 2) (ht : has d top) (ht1 : top ≠ 1) :
 Calls Tryz.prog 135 #[.pointer (some ⟨a, 0, none⟩), .int .i64 i, .int .i64 top] w fun e w' => SaysW w w' e (Above d top i) := by
 subst hz
 have hl := hC.rep.l
 have HLk := Lib.hid hC.rep.look
 have HN := Lib.hid hC.rep.node
 have hcnt : ∀ i, has d i -> lk i = (links d i : Nat) := fun j hj => by have := hC.cnt j hj; unfold zp at this; exact this
 have HS := Lib.hid (up_step hC.inv hC.upok hcnt top i)
 have HI := Lib.hid hC.inv
 have ht0 : top ≠ 0 := fun e => by subst e; unfold has at ht; rw [hC.inv.zero] at ht; exact ht rfl
 have HT : Hid (¬ Above d top 1) := fun ha => ht1 ((above_top (no_par_root HI.out)).1 ha)
 clear hC hcnt
 go_enter Tryz.func135, Tryz.ntmps135
 go_wp2
 refine wp_scope_goto 0 (fun a' w' => ∃ x : Int, ∃ (u3 u4 u5 u7 u8 u9 u10 u11 u12 u13 u14 u15 u16 u17 u18 u19 u20 u21 u22 u23 u24 u25 u26 : Value), a' = { tmps := #[.pointer (some ⟨a, 0, none⟩), .int .i64 x, .int .i64 top, u3, u4, u5, .bool false, u7, u8, u9, u10, u11, u12, u13, u14, u15, u16, u17, u18, u19, u20, u21, u22, u23, u24, u25, u26], defers := [] } ∧ w' = w ∧ (((nd d x).kind = 2 ∧ (Above d top x ↔ Above d top i)) ∨ (x = 0 ∧ ¬ Above d top i))) (fun a' _ => muB d (intOf (a'.tmps.getD 1 undef))) rfl ?_ ?_
 ·intro HJ
  have HJ' := Lib.hid HJ
  clear HJ
  go_wp2
  go_step3
  go_step
  go_step
  refine HJ'.out _ _ ?_
  exact ⟨i, _, _, _, _, _, _, _, _, _, _, _, _, _, _, _, _, _, _, _, _, _, _, _, rfl, rfl, .inl ⟨hi, Iff.rfl⟩⟩
 ·rintro a' w1 ⟨x, u3, u4, u5, u7, u8, u9, u10, u11, u12, u13, u14, u15, u16, u17, u18, u19, u20, u21, u22, u23, u24, u25, u26, rfl, rfl, hx⟩
  have Hx := Lib.hid hx
  by_cases e1 : x = top
  ·have hb : (x == top) = true := by simpa using e1
   have He := Lib.hid e1
   clear e1 hx
   go_wp2
   simp only [Exit.jump]
   go_ret
   refine ⟨true, rfl, ⟨fun _ => ?_, fun _ => rfl⟩, rfl⟩
   rcases Hx.out with ⟨h1, h2⟩ | ⟨h1, h2⟩
   ·rw [<- h2, He.out]; exact .self
   ·exact absurd (He.out.symm.trans h1) ht0
  ·have hb : (x == top) = false := by simpa using e1
   have hlk := HLk.out x
   unfold nodeV at hlk
   have He := Lib.hid e1
   clear e1
   by_cases hh : has d x
   ·rw [if_pos hh] at hlk
    have hup := (HN.out x hh).up
    have hx2 := hx.resolve_right (fun h => by have := h.1; subst this; unfold has at hh; rw [HI.out.zero] at hh; exact hh rfl)
    have Hx2 := Lib.hid hx2
    clear hx hx2 hh
    by_cases e2 : x = 1
    ·have hb1 : (x == 1) = true := by simpa using e2
     have He2 := Lib.hid e2
     clear e2
     go_wp2
     simp only [Exit.jump]
     go_ret
     refine ⟨false, rfl, ⟨(fun h => by cases h), fun h => ?_⟩, rfl⟩
     have := Hx2.out.2.2 h
     rw [He2.out] at this
     exact absurd this HT.out
    ·have hb1 : (x == 1) = false := by simpa using e2
     have He2 := Lib.hid e2
     clear e2
     have hst := HS.out x Hx2.out.1 He.out He2.out Hx2.out.2
     go_wp2
     go_step3
     refine ⟨rfl, ⟨up x, _, _, _, _, _, _, _, _, _, _, _, _, _, _, _, _, _, _, _, _, _, _, _, rfl, rfl, hst.1⟩, ?_⟩
     simpa [intOf] using hst.2
   ·rw [if_neg hh] at hlk
    have hx2 : x = 0 ∧ ¬ Above d top i := by
     rcases hx with ⟨h1, _⟩ | h
     ·exact absurd (setE_pos HI.out h1) hh
     ·exact h
    have Hx2 := Lib.hid hx2
    clear hx hx2 hh
    go_wp2
    simp only [Exit.jump]
    go_ret
    exact ⟨false, rfl, ⟨(fun h => by cases h), fun h => absurd h Hx2.out.2⟩, rfl⟩
end
set_option maxRecDepth 100000
set_option maxHeartbeats 1000000
def movedErr (d : Nds) (room : Int) (t : Int) (other name : ByteArray) : Int :=
 if entHas (nd d t).ents other = true then 0 else if putErr (nd d t).ents other ≠ 0 then putErr (nd d t).ents other else if room - used d < (other.size : Int) - name.size then 20 else 0
theorem MoveOk.mk' {d : Nds} {f t k : Int} {name other : ByteArray} (hI : DInv d) (f2 : (nd d f).kind = 2) (t2 : (nd d t).kind = 2) (hg : entGet (nd d f).ents name = some k) (hne : entGet (nd d t).ents other ≠ some k)
 (hp : entHas (nd d t).ents other = false -> putErr (nd d t).ents other = 0) (top : (nd d k).kind = 2 -> ¬ Above d k t) : MoveOk d f name t other k :=
 ⟨hI, f2, t2, hg, fun ⟨h1, h2⟩ => hne (by rw [<- h1, <- h2]; exact hg), hp, top⟩
theorem okName_size {s : ByteArray} (h : okName s = true) : s.size <= 255 := by
 simp [okName] at h
 omega
section
variable {R : RD} {w : World} {a : Nat} {d : Nds} {room us : Int} {lk up : Int -> Int} {f t k : Int} {name other : ByteArray}
theorem MoveOk.size_name (M : MoveOk d f name t other k) : name.size <= 255 := okName_size ((M.inv.node f).names _ (entGet_mem M.get))
theorem MoveOk.size_other (M : MoveOk d f name t other k) : other.size <= 255 := okName_size M.okOther
theorem MoveOk.len_mid (M : MoveOk d f name t other k) (hs : smallD d) (j : Int) : (nd (moveMid d t other k) j).ents.length < 4294967295 := by
 have h1 : ∀ i, (nd d i).ents.length <= 2147483648 := fun i => by
  by_cases hh : 0 <= i ∧ i.toNat < d.length
  ·have h1 := sumBy_ge mass1 hh.1 hh.2
   unfold smallD Go.Proofs.YtimidmogcbapnaaGreatDoor.mass at hs
   unfold mass1 at hs h1
   omega
  ·rw [nd_gone hh]; decide
 unfold moveMid
 rw [ents_setE M.ht]
 have := h1 t
 have := h1 j
 split
 ·unfold movedAt
  cases hh : entHas (nd d t).ents other with
  | false => simp only [Bool.false_eq_true, if_false]; rw [len_put hh]; omega
  | true => simp only [if_true]; rw [len_set]; omega
 ·omega
def MovedEnd (R : RD) (w : World) (a : Nat) (d : Nds) (room : Int) (f : Int) (name : ByteArray) (t : Int) (other : ByteArray) (k : Int) (w2 : World) : Prop :=
 (∀ old, entGet (nd d t).ents other = some old -> Calls Tryz.prog 93 #[.pointer (some ⟨a, 0, none⟩), .int .i64 old] w2 fun e w3 => e = .returned (.tuple #[]) ∧ DiskTo R w a (gc (moveTo d f name t other k)) room w3) ∧
 (entGet (nd d t).ents other = none -> DiskTo R w a (gc (moveTo d f name t other k)) room w2)
theorem moved_end {R1 : RD} {w1 : World} {us1 : Int} (M : MoveOk d f name t other k) (hC : Casc R w a d room lk up zp) (hcl : NoGarb d) (hmax : room <= 9223372036854775807)
 (hR1 : Rep R1 w1 a (moveMid d t other k) room us1 lk up) (hT : Turn R w R1 w1) (hg : R1.g = R.g) (hus : us1 - name.size = used (moveTo d f name t other k)) (hfit : (used (moveTo d f name t other k) : Int) <= room) :
 w1.cell? ⟨a, 0, none⟩ = some (.map (some R1.b)) ∧ (Instr.lookup 78 (.map (some R1.b)) (.int .i64 f) false).run Tryz.prog w1 = .ok (.pointer (some ⟨R.g f, 0, none⟩)) w1 ∧
 Calls Tryz.prog 90 #[.pointer (some ⟨R.g f, 5, none⟩), .string name] w1 fun e w2 => e = .returned (.int .i64 0) ∧ w2.cell? ⟨a, 2, none⟩ = some (.int .i64 us1) ∧ w2.frozen? ⟨a, 2, none⟩ = false ∧
  w2.cell? ⟨R.g k, 0, none⟩ = some (.int .i64 (nd d k).kind) ∧ w2.cell? ⟨R.g k, 6, none⟩ = some (.int .i64 (up k)) ∧ w2.frozen? ⟨R.g k, 6, none⟩ = false ∧
  MovedEnd R w a d room f name t other k (if (nd d k).kind = 2 then (w2.setCell ⟨a, 2, none⟩ (.int .i64 (us1 - name.size))).setCell ⟨R.g k, 6, none⟩ (.int .i64 t) else w2.setCell ⟨a, 2, none⟩ (.int .i64 (us1 - name.size))) := by
 have hfm := M.hfm
 have hlk := hR1.look f
 unfold nodeV at hlk
 rw [if_pos hfm, hg] at hlk
 have hn := (hR1.node f hfm).dir
 rw [hg] at hn
 refine ⟨hR1.l, hlk, (drop_d w1 ⟨R.g f, 5, none⟩ (R1.ev f) _ name hn (M.len_mid hC.small f)).mono fun e w2 ⟨h4, h5⟩ => ?_⟩
 rw [show hasErr (nd (moveMid d t other k) f).ents name = 0 by unfold hasErr; rw [if_pos (entGet_has M.get_mid)]] at h4
 rw [<- hg] at h5
 obtain ⟨R2, hR2, hT2, hg2, hb2⟩ := hR1.setDir hfm h5
 have hR2 : Rep R2 w2 a (moveTo d f name t other k) room us1 lk up := hR2
 have hk2 : has (moveTo d f name t other k) k := (M.has k).2 M.hk
 have hnk := hR2.node k hk2
 rw [hg2, hg] at hnk
 have hR3 := hR2.setUsed (us1 - name.size)
 have kk : Keeps R2.F w2 (w2.setCell ⟨a, 2, none⟩ (.int .i64 (us1 - name.size))) := (Keeps.refl R2.F w2).setCell (p := ⟨a, 2, none⟩) (.inl hR2.fA) _
 refine ⟨h4, hR2.used, hR2.fz 2, by rw [hnk.kind, M.kind], hnk.up, hnk.fz 6, ?_⟩
 have key : ∀ W, Rep R2 W a (moveTo d f name t other k) room (used (moveTo d f name t other k)) lk (if (nd d k).kind = 2 then setAt up k t else up) -> Keeps R2.F w2 W -> MovedEnd R w a d room f name t other k W := by
  intro W hRW hkW
  have hTW : Turn R w R2 W := (hT.trans hT2).trans (Turn.of hkW)
  obtain ⟨hC2, hno⟩ := M.casc hC hcl hRW
  refine ⟨fun old ho => ?_, fun ho => ?_⟩
  ·have hpe : movePend d t other = onePend old := by unfold movePend; rw [ho]
   rw [hpe] at hC2 hno
   refine (less_ok _ R2 _ a (moveTo d f name t other k) room lk _ (onePend old) old rfl hC2 (onePend_pos old) hno).mono ?_
   rintro e w3 ⟨rfl, R', d', lk', up', h1, h2, h3, h4⟩
   rw [decAt_onePend] at h1 h2
   exact ⟨rfl, R', free_end h1 h2 h3 hfit hmax, hTW.trans h4⟩
  ·have hpe : movePend d t other = zp := by unfold movePend; rw [ho]
   rw [hpe] at hC2 hno
   exact ⟨R2, free_end hC2 hno (Kills.refl _) hfit hmax, hTW⟩
 have e1 : (used (moveTo d f name t other k) : Int) = us1 - name.size := hus.symm
 by_cases hkk : (nd d k).kind = 2
 ·rw [if_pos hkk]
  rw [<- hg, <- hg2]
  have hR4 := hR3.setUp hk2 t
  refine key _ ?_ (kk.setCell (.inl (hR3.fN hk2)) _)
  rw [if_pos hkk, e1]
  exact hR4
 ·rw [if_neg hkk]
  refine key _ ?_ kk
  rw [if_neg hkk, e1]
  exact hR3
theorem moved_set {old : Int} {w1 : World} (M : MoveOk d f name t other k) (hC : Casc R w a d room lk up zp) (hcl : NoGarb d) (hfit : (used d : Int) <= room) (hmax : room <= 9223372036854775807) (ho : entGet (nd d t).ents other = some old)
 (ht : DTo w w1 ⟨R.g t, 5, none⟩ (R.ev t) (entSet (nd d t).ents other k)) :
 ∃ R1 : RD, R1.b = R.b ∧ w1.cell? ⟨a, 0, none⟩ = some (.map (some R1.b)) ∧ (Instr.lookup 78 (.map (some R1.b)) (.int .i64 f) false).run Tryz.prog w1 = .ok (.pointer (some ⟨R.g f, 0, none⟩)) w1 ∧
 Calls Tryz.prog 90 #[.pointer (some ⟨R.g f, 5, none⟩), .string name] w1 fun e w2 => e = .returned (.int .i64 0) ∧ w2.cell? ⟨a, 2, none⟩ = some (.int .i64 (used d)) ∧ w2.frozen? ⟨a, 2, none⟩ = false ∧
  w2.cell? ⟨R.g k, 0, none⟩ = some (.int .i64 (nd d k).kind) ∧ w2.cell? ⟨R.g k, 6, none⟩ = some (.int .i64 (up k)) ∧ w2.frozen? ⟨R.g k, 6, none⟩ = false ∧
  MovedEnd R w a d room f name t other k (if (nd d k).kind = 2 then (w2.setCell ⟨a, 2, none⟩ (.int .i64 ((used d : Int) - name.size))).setCell ⟨R.g k, 6, none⟩ (.int .i64 t) else w2.setCell ⟨a, 2, none⟩ (.int .i64 ((used d : Int) - name.size))) := by
 have e : entSet (nd d t).ents other k = movedAt d t other k := by unfold movedAt; rw [if_pos (entGet_has ho)]
 rw [e] at ht
 obtain ⟨R1, hR1, hT1, hg1, hb1⟩ := hC.rep.setDir M.ht ht
 have hR1 : Rep R1 w1 a (moveMid d t other k) room (used d) lk up := hR1
 have hu := M.used
 rw [if_pos (entGet_has ho)] at hu
 exact ⟨R1, hb1, moved_end M hC hcl hmax hR1 hT1 hg1 (by omega) (by omega)⟩
theorem moved_put {w1 : World} (M : MoveOk d f name t other k) (hC : Casc R w a d room lk up zp) (hcl : NoGarb d) (hfit : (used d : Int) <= room) (hmax : room <= 9223372036854775807) (ho : entGet (nd d t).ents other = none)
 (hroom : (other.size : Int) - name.size <= room - used d) (ht : DTo w w1 ⟨R.g t, 5, none⟩ (R.ev t) (putTo (nd d t).ents other k)) :
 Calls Tryz.prog 55 #[.pointer (some ⟨a, 0, none⟩), .int .i64 ((other.size : Int) - name.size)] w1 fun e w2 => e = .returned (.bool true) ∧ w2.cell? ⟨a, 2, none⟩ = some (.int .i64 ((used d : Int) + ((other.size : Int) - name.size))) ∧ w2.frozen? ⟨a, 2, none⟩ = false ∧
 ∃ b : Nat, ∃ W : World, W = w2.setCell ⟨a, 2, none⟩ (.int .i64 ((used d : Int) + other.size)) ∧ W.cell? ⟨a, 0, none⟩ = some (.map (some b)) ∧ (Instr.lookup 78 (.map (some b)) (.int .i64 f) false).run Tryz.prog W = .ok (.pointer (some ⟨R.g f, 0, none⟩)) W ∧
 Calls Tryz.prog 90 #[.pointer (some ⟨R.g f, 5, none⟩), .string name] W fun e w2 => e = .returned (.int .i64 0) ∧ w2.cell? ⟨a, 2, none⟩ = some (.int .i64 ((used d : Int) + other.size)) ∧ w2.frozen? ⟨a, 2, none⟩ = false ∧
  w2.cell? ⟨R.g k, 0, none⟩ = some (.int .i64 (nd d k).kind) ∧ w2.cell? ⟨R.g k, 6, none⟩ = some (.int .i64 (up k)) ∧ w2.frozen? ⟨R.g k, 6, none⟩ = false ∧
  MovedEnd R w a d room f name t other k (if (nd d k).kind = 2 then (w2.setCell ⟨a, 2, none⟩ (.int .i64 ((used d : Int) + other.size - name.size))).setCell ⟨R.g k, 6, none⟩ (.int .i64 t) else w2.setCell ⟨a, 2, none⟩ (.int .i64 ((used d : Int) + other.size - name.size))) := by
 have hh : entHas (nd d t).ents other = false := by rw [<- entGet_isSome, ho]; rfl
 have hp := M.put hh
 have e : putTo (nd d t).ents other k = movedAt d t other k := by unfold movedAt putTo; rw [if_pos hp, hh]; simp
 rw [e] at ht
 obtain ⟨R1, hR1, hT1, hg1, hb1⟩ := hC.rep.setDir M.ht ht
 have hR1 : Rep R1 w1 a (moveMid d t other k) room (used d) lk up := hR1
 have hu := M.used
 rw [hh] at hu
 simp only [Bool.false_eq_true, if_false] at hu
 have hs1 := M.size_name
 have hs2 := M.size_other
 refine (take_any hR1 ((other.size : Int) - name.size) (by omega) (by omega) hmax (by omega) (by omega)).mono fun e w2 ⟨h1, h2, h3⟩ => ?_
 rw [show (decide ((other.size : Int) - name.size <= room - used d)) = true from decide_eq_true (by omega)] at h1
 rw [show takeU room (used d) ((other.size : Int) - name.size) = used d + ((other.size : Int) - name.size) from if_pos (by omega)] at h2
 have hT2 := hR1.turnA hT1 h3
 have hR3 := h2.setUsed ((used d : Int) + other.size)
 have hT3 : Turn R w R1 (w2.setCell ⟨a, 2, none⟩ (.int .i64 ((used d : Int) + other.size))) := hT2.trans (Turn.of ((Keeps.refl R1.F w2).setCell (p := ⟨a, 2, none⟩) (.inl h2.fA) _))
 obtain ⟨f1, f2, f3⟩ := moved_end M hC hcl hmax hR3 hT3 hg1 (by omega) (by omega)
 exact ⟨h1, h2.used, h2.fz 2, R1.b, _, rfl, f1, f2, f3⟩
theorem moved_back {i k : Int} {name : ByteArray} {w1 : World} {n : Int} (hC : Casc R w a d room lk up zp) (hcl : NoGarb d) (hfit0 : (used d : Int) <= room) (hmax : room <= 9223372036854775807) (hi : (nd d i).kind = 2)
 (hp : putErr (nd d i).ents name = 0) (hfit : room - used d < n) (hn1 : n <= 4611686018427387904) (ht : DTo w w1 ⟨R.g i, 5, none⟩ (R.ev i) (putTo (nd d i).ents name k)) :
 Calls Tryz.prog 55 #[.pointer (some ⟨a, 0, none⟩), .int .i64 n] w1 fun e w2 => e = .returned (.bool false) ∧
  Calls Tryz.prog 90 #[.pointer (some ⟨R.g i, 5, none⟩), .string name] w2 fun e w3 => e = .returned (.int .i64 0) ∧ DiskTo R w a d room w3 := by
 have hh := setE_pos hC.inv hi
 obtain ⟨hok, hhas⟩ := putErr_zero.1 hp
 rw [show putTo (nd d i).ents name k = entPut (nd d i).ents name k from if_pos hp] at ht
 obtain ⟨R1, hR1, hT1, hg1, hb1⟩ := hC.rep.setDir hh ht
 have hR1 : Rep R1 w1 a (enterTo d i name k) room (used d) lk up := hR1
 have hul := used_le2 hC.inv hC.small
 refine (take_any hR1 n (by omega) (by omega) hmax (by omega) (by omega)).mono fun e w2 ⟨h1, h2, h3⟩ => ?_
 rw [show (decide (n <= room - used d)) = false from decide_eq_false (by omega)] at h1
 rw [show takeU room (used d) n = used d from if_neg (by omega)] at h2
 have hi1 : has (enterTo d i name k) i := (has_setE hh _ i).2 hh
 have hents : (nd (enterTo d i name k) i).ents = entPut (nd d i).ents name k := by unfold enterTo; rw [ents_setE hh, if_pos rfl]
 have hn := (h2.node i hi1).dir
 have hlen := nd_ents_len hC.small i
 have hl2 := len_put (k := k) hhas
 rw [hg1, hents] at hn
 have hlen2 : (nd d i).ents.length <= 2147483648 := by
  have h1 := sumBy_ge mass1 (has_range hh).1 (has_range hh).2
  have := hC.small
  unfold smallD mass at this
  unfold mass1 at h1
  unfold mass1 at this
  omega
 refine ⟨h1, (drop_d w2 ⟨R.g i, 5, none⟩ (R1.ev i) _ name hn (by omega)).mono fun e w3 ⟨h4, h5⟩ => ?_⟩
 have hput : entHas (entPut (nd d i).ents name k) name = true := by rw [entHas_put hhas]; simp
 rw [show hasErr (entPut (nd d i).ents name k) name = 0 by unfold hasErr; rw [if_pos hput]] at h4
 rw [entDel_put (hC.inv.node i).rising hhas] at h5
 rw [<- hg1] at h5
 obtain ⟨R3, hR3, hT3, _, _⟩ := h2.setDir hi1 h5
 have hd : upd (enterTo d i name k) i ((nd (enterTo d i name k) i).setEnts (nd d i).ents) = d := by
  show setE (setE d i (entPut (nd d i).ents name k)) i (nd d i).ents = d
  rw [setE_setE hh, setE_self hh]
 rw [hd] at hR3
 exact ⟨h4, R3, ⟨⟨lk, up, hC.re hR3⟩, hcl, hfit0, hmax⟩, (hR1.turnA hT1 h3).trans hT3⟩
noncomputable def movedTo (d : Nds) (room : Int) (f : Int) (name : ByteArray) (t : Int) (other : ByteArray) (k : Int) : Nds := if movedErr d room t other name = 0 then gc (moveTo d f name t other k) else d
theorem moved_any (h : IsDisk R w a d room) (f : Int) (name : ByteArray) (t : Int) (other : ByteArray) (k : Int) (h0 : lookErr d f name = 0) (hkk : lookOf d f name = k) (ht0 : folderErr d t = 0) (htop : (nd d k).kind = 2 -> ¬ Above d k t) (hne : entGet (nd d t).ents other ≠ some k) (hos : other.size <= 4294967296) :
 Calls Tryz.prog 137 #[.pointer (some ⟨a, 0, none⟩), .int .i64 f, .string name, .int .i64 t, .string other] w fun e w' => e = .returned (.int .i64 (movedErr d room t other name)) ∧ DiskTo R w a (movedTo d room f name t other k) room w' := by
 obtain ⟨⟨lk, up, hC⟩, hcl, hfit, hmax⟩ := h
 have hlen := nd_ents_len hC.small
 have hl0 := look_any hC.rep f name (hlen f)
 rw [h0, hkk] at hl0
 obtain ⟨f0, hget⟩ := lookErr_zero h0
 rw [hkk] at hget
 obtain ⟨hf, hf2⟩ := folderErr_zero f0
 obtain ⟨ht, ht2⟩ := folderErr_zero ht0
 have hk : has d k := (hC.inv.tgt f _ (entGet_mem hget)).1
 have hul := used_le2 hC.inv hC.small
 have HL := Lib.hid (fun (w1 : World) (hk1 : Keeps NoB w w1) => (⟨(hC.rep.keepN hk1).l, (hC.rep.keepN hk1).look k, (hC.rep.keepN hk1).look t⟩ : _ ∧ _ ∧ _))
 unfold nodeV at HL
 rw [if_pos hk, if_pos ht] at HL
 have hgetT := Lib.hid (fun (w1 : World) (hk1 : Keeps NoB w w1) => get_any (fun _ => True) w1 ⟨R.g t, 5, none⟩ (R.ev t) (nd d t).ents other (((hC.rep.keepN hk1).node t ht).dir.any (fun _ _ => trivial)) (by have := hlen t; omega))
 have hput := Lib.hid (fun (w1 : World) (hk1 : Keeps NoB w w1) => put_d w1 ⟨R.g t, 5, none⟩ (R.ev t) (nd d t).ents other k ((hC.rep.keepN hk1).node t ht).dir (by have := hlen t; omega))
 have hset := Lib.hid (fun (w1 : World) (hk1 : Keeps NoB w w1) => set_d w1 ⟨R.g t, 5, none⟩ (R.ev t) (nd d t).ents other k ((hC.rep.keepN hk1).node t ht).dir (by have := hlen t; omega))
 unfold movedTo
 cases ho : entGet (nd d t).ents other with
 | some old =>
   have hh := entGet_has ho
   have e : movedErr d room t other name = 0 := if_pos hh
   rw [e, if_pos rfl]
   have M : MoveOk d f name t other k := MoveOk.mk' hC.inv hf2 ht2 hget hne (fun h => by rw [hh] at h; cases h) htop
   have hs1 := M.size_name
   have hu := M.used
   rw [if_pos hh] at hu
   have hwr : wrap64 ((used d : Int) - name.size) = (used d : Int) - name.size := IntWalk.wrap64_in _ (by omega)
   have HP := Lib.hid (fun (w1 w2 : World) (hk1 : Keeps NoB w w1) => moved_set (w := w1) (w1 := w2) M (hC.keep hk1 (fun _ _ h => h.elim)) hcl hfit hmax ho)
   have hhas : hasErr (nd d t).ents other = 0 := by unfold hasErr; rw [if_pos hh]
   rw [hhas] at hset
   rw [ho] at hgetT
   have HO := Lib.hid ho
   clear hC hcl hfit hmax e hul hlen M hs1 hu hhas hh hne htop hget ho h0 hkk ht0 f0 hf hf2 ht ht2 hk
   generalize (used d : Int) = us at *
   have hkd : ((nd d k).kind = 2) ∨ ((nd d k).kind ≠ 2) := Classical.em _
   rcases hkd with hkd | hkd
   case' inl => simp only [hkd, if_true] at HP; clear hkd
   case' inr => simp only [hkd, if_false] at HP; generalize (nd d k).kind = kd at *
   all_goals
    go_enter Tryz.func137, Tryz.ntmps137
    go_wp2_with (first | (go_at_call 87; refine hl0.mono ?_; rintro e w1 ⟨rfl, hk1⟩; obtain ⟨l1, l2, l3⟩ := HL.out w1 hk1; have q2 := fun (n : Nat) => (HL.out (w1.drewN n) (hk1.drewN n)).2.1; have q3 := fun (n : Nat) => (HL.out (w1.drewN n) (hk1.drewN n)).2.2) | (go_quiet (fail)) | (go_at_call 120; refine (hgetT.out _ (hk1.drewN _)).mono ?_; rintro e w2 ⟨rfl, hk2⟩; replace hk2 := (hk1.drewN _).trans hk2) | (go_at_call 164; refine (hset.out _ hk2).mono ?_; rintro e w3 ⟨rfl, ht3⟩; obtain ⟨R1, -, m1, m2, hdr⟩ := HP.out _ _ hk2 ht3; have HDr := Lib.hid hdr; clear hdr) | (go_at_call 90; refine HDr.out.mono ?_; rintro e w4 ⟨rfl, n1, n2, n3, n4, n5, hend⟩; have HEn := Lib.hid (hend.1 _ HO.out); clear hend) | (go_at_call 93; refine HEn.out.mono ?_; rintro e w5 ⟨rfl, hend⟩))
    go_ret
    exact ⟨rfl, hend.after hk2⟩
 | none =>
   have hh : entHas (nd d t).ents other = false := by rw [<- entGet_isSome, ho]; rfl
   have hnh : ¬ (entHas (nd d t).ents other = true) := by rw [hh]; decide
   rw [ho] at hgetT
   have hE0 : ∀ (P : Int -> Prop), P (if putErr (nd d t).ents other ≠ 0 then putErr (nd d t).ents other else if room - used d < (other.size : Int) - name.size then 20 else 0) -> P (movedErr d room t other name) := fun P hP => by
    unfold movedErr; rw [if_neg hnh]; exact hP
   have hns : name.size <= 255 := okName_size ((hC.inv.node f).names _ (entGet_mem hget))
   have hwd : wrap64 ((other.size : Int) - name.size) = (other.size : Int) - name.size := IntWalk.wrap64_in _ (by omega)
   by_cases d3 : putErr (nd d t).ents other = 0
   case neg =>
    have e : movedErr d room t other name = putErr (nd d t).ents other := hE0 (fun x => x = putErr (nd d t).ents other) (if_pos d3)
    rw [e, if_neg d3]
    have HP := Lib.hid (fun (w1 w2 : World) (hk1 : Keeps NoB w w1) => enter_same (w := w1) (w1 := w2) (k := k) (hC.keep hk1 (fun _ _ h => h.elim)) hcl hfit hmax ht2 d3)
    clear hC hcl hfit hmax e hul hlen hh hnh hE0 hns hwd hne htop hget ho h0 hkk ht0 f0 hf hf2 ht ht2 hk hset
    generalize putErr (nd d t).ents other = pe at *
    go_enter Tryz.func137, Tryz.ntmps137
    go_wp2_with (first | (go_at_call 87; refine hl0.mono ?_; rintro e w1 ⟨rfl, hk1⟩; obtain ⟨l1, l2, l3⟩ := HL.out w1 hk1; have q2 := fun (n : Nat) => (HL.out (w1.drewN n) (hk1.drewN n)).2.1; have q3 := fun (n : Nat) => (HL.out (w1.drewN n) (hk1.drewN n)).2.2) | (go_quiet (fail)) | (go_at_call 120; refine (hgetT.out _ (hk1.drewN _)).mono ?_; rintro e w2 ⟨rfl, hk2⟩; replace hk2 := (hk1.drewN _).trans hk2) | (go_at_call 89; refine (hput.out _ hk2).mono ?_; rintro e w3 ⟨rfl, ht3⟩; have hend := HP.out _ _ hk2 ht3))
    go_ret
    exact ⟨rfl, hend.after hk2⟩
   case pos =>
   have hE1 : ∀ (P : Int -> Prop), P (if room - used d < (other.size : Int) - name.size then 20 else 0) -> P (movedErr d room t other name) := fun P hP => hE0 P (by rw [if_neg (by simpa using d3)]; exact hP)
   rw [d3] at hput
   by_cases d4 : room - used d < (other.size : Int) - name.size
   ·have e : movedErr d room t other name = 20 := hE1 (fun x => x = 20) (if_pos d4)
    rw [e, if_neg (by decide)]
    have HP := Lib.hid (fun (w1 w2 : World) (hk1 : Keeps NoB w w1) => moved_back (w := w1) (w1 := w2) (k := k) (n := (other.size : Int) - name.size) (hC.keep hk1 (fun _ _ h => h.elim)) hcl hfit hmax ht2 d3 d4 (by omega))
    clear hC hcl hfit hmax e hul hlen hh hnh hE0 hE1 hns hne htop hget ho h0 hkk ht0 f0 hf hf2 ht ht2 hk hset d3 d4
    go_enter Tryz.func137, Tryz.ntmps137
    go_wp2_with (first | (go_at_call 87; refine hl0.mono ?_; rintro e w1 ⟨rfl, hk1⟩; obtain ⟨l1, l2, l3⟩ := HL.out w1 hk1; have q2 := fun (n : Nat) => (HL.out (w1.drewN n) (hk1.drewN n)).2.1; have q3 := fun (n : Nat) => (HL.out (w1.drewN n) (hk1.drewN n)).2.2) | (go_quiet (fail)) | (go_at_call 120; refine (hgetT.out _ (hk1.drewN _)).mono ?_; rintro e w2 ⟨rfl, hk2⟩; replace hk2 := (hk1.drewN _).trans hk2) | (go_at_call 89; refine (hput.out _ hk2).mono ?_; rintro e w3 ⟨rfl, ht3⟩) | (go_at_call 55; refine (HP.out _ _ hk2 ht3).mono ?_; rintro e w4 ⟨rfl, hdr⟩) | (go_at_call 90; refine hdr.mono ?_; rintro e w5 ⟨rfl, hend⟩))
    go_ret
    exact ⟨rfl, hend.after hk2⟩
   ·have e : movedErr d room t other name = 0 := hE1 (fun x => x = 0) (if_neg d4)
    rw [e, if_pos rfl]
    have M : MoveOk d f name t other k := MoveOk.mk' hC.inv hf2 ht2 hget hne (fun _ => d3) htop
    have hs1 := M.size_name
    have hs2 := M.size_other
    have hwr : wrap64 ((used d : Int) + other.size - name.size) = (used d : Int) + other.size - name.size := IntWalk.wrap64_in _ (by omega)
    have hwa : wrap64 ((used d : Int) + ((other.size : Int) - name.size) + name.size) = (used d : Int) + other.size := by rw [IntWalk.wrap64_in _ (by omega)]; omega
    have HP := Lib.hid (fun (w1 w2 : World) (hk1 : Keeps NoB w w1) => moved_put (w := w1) (w1 := w2) M (hC.keep hk1 (fun _ _ h => h.elim)) hcl hfit hmax ho (by omega))
    have HO := Lib.hid ho
    clear hC hcl hfit hmax e hul hlen hh hnh hE0 hE1 hns hne htop hget ho h0 hkk ht0 f0 hf hf2 ht ht2 hk hset d3 d4 M hs1 hs2
    generalize (used d : Int) = us at *
    have hkd : ((nd d k).kind = 2) ∨ ((nd d k).kind ≠ 2) := Classical.em _
    rcases hkd with hkd | hkd
    case' inl => simp only [hkd, if_true] at HP; clear hkd
    case' inr => simp only [hkd, if_false] at HP; generalize (nd d k).kind = kd at *
    all_goals
     go_enter Tryz.func137, Tryz.ntmps137
     go_wp2_with (first | (go_at_call 87; refine hl0.mono ?_; rintro e w1 ⟨rfl, hk1⟩; obtain ⟨l1, l2, l3⟩ := HL.out w1 hk1; have q2 := fun (n : Nat) => (HL.out (w1.drewN n) (hk1.drewN n)).2.1; have q3 := fun (n : Nat) => (HL.out (w1.drewN n) (hk1.drewN n)).2.2) | (go_quiet (fail)) | (go_at_call 120; refine (hgetT.out _ (hk1.drewN _)).mono ?_; rintro e w2 ⟨rfl, hk2⟩; replace hk2 := (hk1.drewN _).trans hk2) | (go_at_call 89; refine (hput.out _ hk2).mono ?_; rintro e w3 ⟨rfl, ht3⟩) | (go_at_call 55; refine (HP.out _ _ hk2 ht3).mono ?_; rintro e w4 ⟨rfl, u1, u2, b, W, hW, m1, m2, hdr⟩; have HDr := Lib.hid hdr; clear hdr; subst hW) | (go_at_call 90; refine HDr.out.mono ?_; rintro e w5 ⟨rfl, n1, n2, n3, n4, n5, hend⟩; have HEn := Lib.hid (hend.2 HO.out); clear hend))
     go_ret
     exact ⟨rfl, HEn.out.after hk2⟩
end
set_option maxRecDepth 100000
set_option maxHeartbeats 1000000
def moveErr2 (d : Nds) (room : Int) (t : Int) (other name : ByteArray) (k : Int) : Int :=
 match entGet (nd d t).ents other with
 | some old => if old = k then 0 else givesErr d k old
 | none => movedErr d room t other name
open Classical in
noncomputable def moveErr (d : Nds) (room : Int) (f : Int) (name : ByteArray) (t : Int) (other : ByteArray) : Int :=
 if lookErr d f name ≠ 0 then lookErr d f name else if folderErr d t ≠ 0 then folderErr d t
 else if (nd d (lookOf d f name)).kind = 2 ∧ Above d (lookOf d f name) t then 23 else moveErr2 d room t other name (lookOf d f name)
noncomputable def moveD (d : Nds) (room : Int) (f : Int) (name : ByteArray) (t : Int) (other : ByteArray) : Nds :=
 if moveErr d room f name t other = 0 ∧ entGet (nd d t).ents other ≠ some (lookOf d f name) then gc (moveTo d f name t other (lookOf d f name)) else d
section
variable {R : RD} {w : World} {a : Nat} {d : Nds} {room : Int}
theorem moveErr_look {f t : Int} {name other : ByteArray} (h : lookErr d f name ≠ 0) : moveErr d room f name t other = lookErr d f name := by unfold moveErr; rw [if_pos h]
theorem moveErr_fold {f t : Int} {name other : ByteArray} (h : lookErr d f name = 0) (h2 : folderErr d t ≠ 0) : moveErr d room f name t other = folderErr d t := by
 unfold moveErr; rw [if_neg (by simpa using h), if_pos h2]
theorem moveErr_busy {f t : Int} {name other : ByteArray} (h : lookErr d f name = 0) (h2 : folderErr d t = 0) (h3 : (nd d (lookOf d f name)).kind = 2 ∧ Above d (lookOf d f name) t) : moveErr d room f name t other = 23 := by
 unfold moveErr; rw [if_neg (by simpa using h), if_neg (by simpa using h2), if_pos h3]
theorem moveErr_two {f t : Int} {name other : ByteArray} (h : lookErr d f name = 0) (h2 : folderErr d t = 0) (h3 : ¬ ((nd d (lookOf d f name)).kind = 2 ∧ Above d (lookOf d f name) t)) : moveErr d room f name t other = moveErr2 d room t other name (lookOf d f name) := by
 unfold moveErr; rw [if_neg (by simpa using h), if_neg (by simpa using h2), if_neg h3]
theorem moveD_err {f t : Int} {name other : ByteArray} (h : moveErr d room f name t other ≠ 0) : moveD d room f name t other = d := by unfold moveD; rw [if_neg (fun e => h e.1)]
theorem moveD_any (h : IsDisk R w a d room) (f : Int) (name : ByteArray) (t : Int) (other : ByteArray) (hos : other.size <= 4294967296) :
 Calls Tryz.prog 107 #[.pointer (some ⟨a, 0, none⟩), .int .i64 f, .string name, .int .i64 t, .string other] w fun e w' => e = .returned (.int .i64 (moveErr d room f name t other)) ∧ DiskTo R w a (moveD d room f name t other) room w' := by
 have H := Lib.hid h
 obtain ⟨⟨lk, up, hC⟩, hcl, hfit, hmax⟩ := h
 have hlen := nd_ents_len hC.small
 have hl0 := look_any hC.rep f name (hlen f)
 by_cases c0 : lookErr d f name = 0
 case neg =>
  rw [moveD_err (by rw [moveErr_look c0]; exact c0), moveErr_look c0]
  clear hC hcl hfit hmax
  generalize lookErr d f name = er at *
  generalize lookOf d f name = k at *
  go_enter Tryz.func107, Tryz.ntmps107
  go_wp2_with (go_at_call 87; refine hl0.mono ?_; rintro e w1 ⟨rfl, hk⟩)
  go_ret
  exact ⟨rfl, H.out.same hk⟩
 case pos =>
 obtain ⟨f0, hget⟩ := lookErr_zero c0
 obtain ⟨hf, hf2⟩ := folderErr_zero f0
 have hk := (hC.inv.tgt f _ (entGet_mem hget)).1
 have hk1 := (hC.inv.tgt f _ (entGet_mem hget)).2
 have hF := Lib.hid (fun (w1 : World) (hk1 : Keeps NoB w w1) => folder_any (hC.rep.keepN hk1) t)
 rw [c0] at hl0
 by_cases c1 : folderErr d t = 0
 case neg =>
  rw [moveD_err (by rw [moveErr_fold c0 c1]; exact c1), moveErr_fold c0 c1]
  have hp : ptrIf R (folderErr d t) t = .pointer none := if_neg c1
  rw [hp] at hF
  clear hC hcl hfit hmax
  generalize folderErr d t = er at *
  generalize lookOf d f name = k at *
  go_enter Tryz.func107, Tryz.ntmps107
  go_wp2_with (first | (go_at_call 87; refine hl0.mono ?_; rintro e w1 ⟨rfl, hk⟩) | (go_at_call 88; refine (hF.out _ hk).mono ?_; rintro e w2 ⟨rfl, rfl⟩))
  go_ret
  exact ⟨rfl, H.out.same hk⟩
 case pos =>
 obtain ⟨ht, ht2⟩ := folderErr_zero c1
 rw [c1] at hF
 have hp : ptrIf R 0 t = .pointer (some ⟨R.g t, 0, none⟩) := rfl
 rw [hp] at hF
 have HL := Lib.hid (fun (w1 : World) (hk1 : Keeps NoB w w1) => (⟨(hC.rep.keepN hk1).l, (hC.rep.keepN hk1).look (lookOf d f name), ((hC.rep.keepN hk1).node _ hk).kind⟩ : _ ∧ _ ∧ _))
 unfold nodeV at HL
 rw [if_pos hk] at HL
 have hG := Lib.hid (fun (w1 : World) (hk1 : Keeps NoB w w1) => get_any (fun _ => True) w1 ⟨R.g t, 5, none⟩ (R.ev t) (nd d t).ents other (((hC.rep.keepN hk1).node t ht).dir.any (fun _ _ => trivial)) (by have := hlen t; omega))
 have hB := Lib.hid (fun (w1 : World) (hkx : Keeps NoB w w1) => below_any (hC.keep hkx (fun _ _ h => h.elim)) rfl t (lookOf d f name) ht2 hk hk1)
 by_cases c2 : (nd d (lookOf d f name)).kind = 2 ∧ Above d (lookOf d f name) t
 ·rw [moveD_err (by rw [moveErr_busy c0 c1 c2]; decide), moveErr_busy c0 c1 c2]
  have hB2 : Hid (∀ (w1 : World), Keeps NoB w w1 -> Calls Tryz.prog 135 #[.pointer (some ⟨a, 0, none⟩), .int .i64 t, .int .i64 (lookOf d f name)] w1 fun e w' => e = .returned (.bool true) ∧ w1 = w') := fun w1 hkx => by
   refine (hB.out w1 hkx).mono ?_
   rintro e w' ⟨b, rfl, hb, rfl⟩
   rw [hb.2 c2.2]
   exact ⟨rfl, rfl⟩
  rw [c2.1] at HL
  clear hC hcl hfit hmax hB hget c0 f0 hk hk1 c2
  generalize lookOf d f name = k at *
  generalize entGet (nd d t).ents other = og at *
  cases og
  all_goals
   go_enter Tryz.func107, Tryz.ntmps107
   go_wp2_with (first | (go_at_call 87; refine hl0.mono ?_; rintro e w1 ⟨rfl, hk1⟩; obtain ⟨l1, l2, l3⟩ := HL.out w1 hk1) | (go_at_call 88; refine (hF.out _ hk1).mono ?_; rintro e w2 ⟨rfl, rfl⟩) | (go_at_call 120; refine (hG.out _ hk1).mono ?_; rintro e w2 ⟨rfl, hk2⟩; replace hk2 := hk1.trans hk2; obtain ⟨m1, m2, m3⟩ := HL.out w2 hk2) | (go_at_call 135; refine (hB2.out _ hk2).mono ?_; rintro e w3 ⟨rfl, rfl⟩))
   go_ret
   exact ⟨rfl, H.out.same hk2⟩
 ·have hB2 : Hid ((nd d (lookOf d f name)).kind = 2 -> ∀ (w1 : World), Keeps NoB w w1 -> Calls Tryz.prog 135 #[.pointer (some ⟨a, 0, none⟩), .int .i64 t, .int .i64 (lookOf d f name)] w1 fun e w' => e = .returned (.bool false) ∧ w1 = w') := fun h2 w1 hkx => by
   refine (hB.out w1 hkx).mono ?_
   rintro e w' ⟨b, rfl, hb, rfl⟩
   cases b with
   | false => exact ⟨rfl, rfl⟩
   | true => exact absurd ⟨h2, hb.1 rfl⟩ c2
  have e2 := moveErr_two (room := room) (other := other) c0 c1 c2
  have htop : (nd d (lookOf d f name)).kind = 2 -> ¬ Above d (lookOf d f name) t := fun h2 ha => c2 ⟨h2, ha⟩
  have hLO := Lib.hid (fun (w1 : World) (hk1 : Keeps NoB w w1) (o : Int) => (hC.rep.keepN hk1).look o)
  have hGI := Lib.hid (fun (w1 : World) (hk1 : Keeps NoB w w1) (o : Int) (ho : has d o) => gives_any (hC.rep.keepN hk1) hC.inv (lookOf d f name) o hk ho)
  have hMV := Lib.hid (fun (w1 : World) (hk1 : Keeps NoB w w1) (hne : entGet (nd d t).ents other ≠ some (lookOf d f name)) => moved_any (H.out.keepN hk1) f name t other (lookOf d f name) c0 rfl c1 htop hne hos)
  have hD : moveD d room f name t other = if moveErr2 d room t other name (lookOf d f name) = 0 ∧ entGet (nd d t).ents other ≠ some (lookOf d f name) then gc (moveTo d f name t other (lookOf d f name)) else d := by unfold moveD; rw [e2]
  rw [hD, e2]
  have hkd : ((nd d (lookOf d f name)).kind = 2) ∨ ((nd d (lookOf d f name)).kind == 2) = false := by
   by_cases h : (nd d (lookOf d f name)).kind = 2
   ·exact .inl h
   ·exact .inr (by simpa using h)
  cases ho : entGet (nd d t).ents other with
  | none =>
    rw [ho] at hG hMV
    replace hMV := Lib.hid (fun (w1 : World) (hk1 : Keeps NoB w w1) => hMV.out w1 hk1 (fun h => by cases h))
    unfold movedTo at hMV
    have hE : moveErr2 d room t other name (lookOf d f name) = movedErr d room t other name := by unfold moveErr2; rw [ho]
    simp only [hE, ne_eq, reduceCtorEq, not_false_eq_true, and_true]
    clear hE
    clear hC hcl hfit hmax hB hget c0 f0 hk hk1 c2 hD e2 htop hGI hLO hf2 ht2 ho hf hlen
    generalize movedErr d room t other name = me at *
    generalize (if me = 0 then gc (moveTo d f name t other (lookOf d f name)) else d) = d2 at *
    generalize lookOf d f name = k at *
    rcases hkd with hkd | hkd
    case' inl => rw [hkd] at HL; replace hB2 := Lib.hid (hB2.out hkd); clear hkd
    case' inr => clear hB2; generalize (nd d k).kind = kd at *
    all_goals
     go_enter Tryz.func107, Tryz.ntmps107
     go_wp2_with (first | (go_at_call 87; refine hl0.mono ?_; rintro e w1 ⟨rfl, hk1⟩; obtain ⟨l1, l2, l3⟩ := HL.out w1 hk1) | (go_at_call 88; refine (hF.out _ hk1).mono ?_; rintro e w2 ⟨rfl, rfl⟩) | (go_at_call 120; refine (hG.out _ hk1).mono ?_; rintro e w2 ⟨rfl, hk2⟩; replace hk2 := hk1.trans hk2; obtain ⟨m1, m2, m3⟩ := HL.out w2 hk2) | (go_at_call 135; refine (hB2.out _ hk2).mono ?_; rintro e w3 ⟨rfl, rfl⟩) | (go_at_call 137; refine (hMV.out _ hk2).mono ?_; rintro e w3 ⟨rfl, hend⟩))
     go_ret
     exact ⟨rfl, hend.after hk2⟩
  | some old =>
    have hold := (hC.inv.tgt t _ (entGet_mem ho)).1
    rw [ho] at hG hMV
    by_cases c3 : old = lookOf d f name
    ·subst c3
     have hE : moveErr2 d room t other name (lookOf d f name) = 0 := by unfold moveErr2; rw [ho]; exact if_pos rfl
     simp only [hE, ne_eq, not_true_eq_false, and_false, if_false]
     clear hE
     clear hC hcl hfit hmax hB hget c0 f0 hk hk1 c2 hD e2 htop hGI hLO hf2 ht2 ho hf hlen hMV hold
     generalize lookOf d f name = k at *
     rcases hkd with hkd | hkd
     case' inl => rw [hkd] at HL; replace hB2 := Lib.hid (hB2.out hkd); clear hkd
     case' inr => clear hB2; generalize (nd d k).kind = kd at *
     all_goals
      go_enter Tryz.func107, Tryz.ntmps107
      go_wp2_with (first | (go_at_call 87; refine hl0.mono ?_; rintro e w1 ⟨rfl, hk1⟩; obtain ⟨l1, l2, l3⟩ := HL.out w1 hk1) | (go_at_call 88; refine (hF.out _ hk1).mono ?_; rintro e w2 ⟨rfl, rfl⟩) | (go_at_call 120; refine (hG.out _ hk1).mono ?_; rintro e w2 ⟨rfl, hk2⟩; replace hk2 := hk1.trans hk2; obtain ⟨m1, m2, m3⟩ := HL.out w2 hk2) | (go_at_call 135; refine (hB2.out _ hk2).mono ?_; rintro e w3 ⟨rfl, rfl⟩))
      go_ret
      exact ⟨rfl, H.out.same hk2⟩
    ·have hE : moveErr2 d room t other name (lookOf d f name) = givesErr d (lookOf d f name) old := by unfold moveErr2; rw [ho]; exact if_neg c3
     simp only [hE]
     clear hE
     have hb3 : (old == lookOf d f name) = false := by simpa using c3
     have hLO2 := Lib.hid (fun (w1 : World) (hk1 : Keeps NoB w w1) => hLO.out w1 hk1 old)
     unfold nodeV at hLO2
     rw [if_pos hold] at hLO2
     have hGI2 := Lib.hid (fun (w1 : World) (hk1 : Keeps NoB w w1) => hGI.out w1 hk1 old hold)
     replace hMV := Lib.hid (fun (w1 : World) (hk1 : Keeps NoB w w1) => hMV.out w1 hk1 (fun h => c3 (by cases h; rfl)))
     have hme : movedErr d room t other name = 0 := if_pos (entGet_has ho)
     unfold movedTo at hMV
     rw [hme, if_pos rfl] at hMV
     have hne : (some old ≠ some (lookOf d f name)) = True := by simp [c3]
     simp only [hne, and_true]
     clear hC hcl hfit hmax hB hget c0 f0 hk hk1 c2 hD e2 htop hGI hLO hf2 ht2 ho hf hlen hold c3 hme hne
     by_cases c4 : givesErr d (lookOf d f name) old = 0
     case neg =>
      rw [if_neg c4]
      clear hMV
      generalize givesErr d (lookOf d f name) old = ge at *
      generalize lookOf d f name = k at *
      rcases hkd with hkd | hkd
      case' inl => rw [hkd] at HL; replace hB2 := Lib.hid (hB2.out hkd); clear hkd
      case' inr => clear hB2; generalize (nd d k).kind = kd at *
      all_goals
       go_enter Tryz.func107, Tryz.ntmps107
       go_wp2_with (first | (go_at_call 87; refine hl0.mono ?_; rintro e w1 ⟨rfl, hk1⟩; obtain ⟨l1, l2, l3⟩ := HL.out w1 hk1) | (go_at_call 88; refine (hF.out _ hk1).mono ?_; rintro e w2 ⟨rfl, rfl⟩) | (go_at_call 120; refine (hG.out _ hk1).mono ?_; rintro e w2 ⟨rfl, hk2⟩; replace hk2 := hk1.trans hk2; obtain ⟨m1, m2, m3⟩ := HL.out w2 hk2; have m4 := hLO2.out w2 hk2) | (go_at_call 135; refine (hB2.out _ hk2).mono ?_; rintro e w3 ⟨rfl, rfl⟩) | (go_at_call 136; refine (hGI2.out _ hk2).mono ?_; rintro e w3 ⟨rfl, rfl⟩))
       go_ret
       exact ⟨rfl, H.out.same hk2⟩
     case pos =>
      rw [if_pos c4, c4]
      rw [c4] at hGI2
      generalize gc (moveTo d f name t other (lookOf d f name)) = d2 at *
      generalize lookOf d f name = k at *
      rcases hkd with hkd | hkd
      case' inl => rw [hkd] at HL; replace hB2 := Lib.hid (hB2.out hkd); clear hkd
      case' inr => clear hB2; generalize (nd d k).kind = kd at *
      all_goals
       go_enter Tryz.func107, Tryz.ntmps107
       go_wp2_with (first | (go_at_call 87; refine hl0.mono ?_; rintro e w1 ⟨rfl, hk1⟩; obtain ⟨l1, l2, l3⟩ := HL.out w1 hk1) | (go_at_call 88; refine (hF.out _ hk1).mono ?_; rintro e w2 ⟨rfl, rfl⟩) | (go_at_call 120; refine (hG.out _ hk1).mono ?_; rintro e w2 ⟨rfl, hk2⟩; replace hk2 := hk1.trans hk2; obtain ⟨m1, m2, m3⟩ := HL.out w2 hk2; have m4 := hLO2.out w2 hk2) | (go_at_call 135; refine (hB2.out _ hk2).mono ?_; rintro e w3 ⟨rfl, rfl⟩) | (go_at_call 136; refine (hGI2.out _ hk2).mono ?_; rintro e w3 ⟨rfl, rfl⟩) | (go_at_call 137; refine (hMV.out _ hk2).mono ?_; rintro e w3 ⟨rfl, hend⟩))
       go_ret
       exact ⟨rfl, hend.after hk2⟩
end
set_option maxRecDepth 100000
set_option maxHeartbeats 1000000
def endOf (d : Nds) (i x : Int) (s : ByteArray) : Nat := max (nd d i).data.size (x.toNat + s.size)
def writeErr (d : Nds) (room i x : Int) (s : ByteArray) : Int :=
 if fileErr d i ≠ 0 then fileErr d i else if x < 0 then 10 else if s.size = 0 then 0 else if 4194304 < x then 18 else if 4194304 - x < s.size then 18 else if room - used d < endOf d i x s - (nd d i).data.size then 20 else 0
def writeNd (n : Nd) (x : Nat) (s : ByteArray) : Nd := n.setData (over (n.data ++ noughts (max n.data.size (x + s.size) - n.data.size)) x s)
def writeTo (d : Nds) (room i x : Int) (s : ByteArray) : Nds := if writeErr d room i x s = 0 ∧ s.size ≠ 0 then upd d i (writeNd (nd d i) x.toNat s) else d
theorem step_append_run {P : Program} {ops : Array Oper} {o : Oper} {a : Act} {w : World} {K : Act -> World -> Prop} {Q : Exit -> Act -> World -> Prop} {E : Prop}
 (hg : o.guard = none) (s x : Operand) (t tn : TypeId) (hop : o.op = Op.call { callee := Callee.builtin Builtin.append, args := #[s, x], argTypes := #[t, tn] })
 {vs vx v' : Value} {w' : World} (hr : (Builtin.append_ #[t, tn] o.type #[vs, vx]).run P w = .ok v' w') (hs : a.eval s = vs) (hx : a.eval x = vx)
 (hK : K (a.put o.dst v') w') : if Region.wanted o (yielded ops a.tmps) = true then Oper.wp P o a w K Q else E := by
 have hw : Region.wanted o (yielded ops a.tmps) = true := by simp [Region.wanted, hg]
 rw [if_pos hw]
 unfold Oper.wp
 simp [execOp, hop, resolve, invoke, builtin, hs, hx, hr, Result.andThen]
 exact hK
section
variable {R : RD} {w : World} {a : Nat} {d : Nds} {room : Int}
theorem nd_upd_self {d : Nds} {i : Int} (hi : has d i) (n : Nd) : nd (upd d i n) i = n := by
 have hr := has_range hi
 rw [nd_upd hr.1 hr.2, if_pos rfl]
theorem upd_upd {d : Nds} {i : Int} (hi : has d i) {n : Nd} (hn : n.kind ≠ 0) (m : Nd) : upd (upd d i n) i m = upd d i m := by
 have hr := has_range hi
 have hi2 : has (upd d i n) i := (has_upd hi hn i).2 hi
 have hr2 := has_range hi2
 apply List.ext_getElem?
 intro j
 unfold upd
 rw [if_pos hr.1, if_pos hr.1, if_pos hr.1, List.set_set]
theorem write_end {lk up : Int -> Int} {us1 : Int} {w1 w2 w4 : World} {i : Int} {v : Value} {x : Nat} {s : ByteArray} (hC : Casc R w a d room lk up zp) (hcl : NoGarb d) (hi : has d i) (hk1 : (nd d i).kind = 1) (hmax : room <= 9223372036854775807)
 (hx : x + s.size <= 4194304) (h0 : 0 < s.size) (hus : us1 = ((used (upd d i (writeNd (nd d i) x s)) : Nat) : Int)) (hfit : us1 <= room)
 (hR1 : Rep R w1 a d room us1 lk up) (hk1 : Keeps (fun x => x = a) w w1)
 (ho : OwnB (fun _ => True) w2 v ((nd d i).data ++ noughts (max (nd d i).data.size (x + s.size) - (nd d i).data.size))) (hk2 : Keeps (fun g => (R.dv i).ownBlock = some g) w1 w2) (hv : ∀ g, v.ownBlock = some g -> (R.dv i).ownBlock = some g ∨ w1.heap.size <= g)
 (ho4 : OwnB (fun _ => True) w4 v (over ((nd d i).data ++ noughts (max (nd d i).data.size (x + s.size) - (nd d i).data.size)) x s)) (hk4 : Keeps (fun g => v.ownBlock = some g) (w2.setCell ⟨R.g i, 4, none⟩ v) w4) :
 DiskTo R w a (upd d i (writeNd (nd d i) x s)) room w4 := by
 obtain ⟨R', hR2, hT, hg', _, hdv'⟩ := hR1.setData hi hk2 ho hv
 have hn0 : ((nd d i).setData ((nd d i).data ++ noughts (max (nd d i).data.size (x + s.size) - (nd d i).data.size))).kind ≠ 0 := hi
 have hi2 := (has_upd hi hn0 i).2 hi
 have hR3 := hR2.overData hi2 (s := over ((nd d i).data ++ noughts (max (nd d i).data.size (x + s.size) - (nd d i).data.size)) x s) (by rw [hdv']; exact hk4) (by rw [hdv']; exact ho4)
 rw [nd_upd_self hi, upd_upd hi hn0] at hR3
 have hsz : (over ((nd d i).data ++ noughts (max (nd d i).data.size (x + s.size) - (nd d i).data.size)) x s).size = max (nd d i).data.size (x + s.size) := by
  have h1 : ((nd d i).data ++ noughts (max (nd d i).data.size (x + s.size) - (nd d i).data.size)).size = max (nd d i).data.size (x + s.size) := by rw [ByteArray.size_append, noughts_size]; omega
  rw [over_size (by rw [h1]; omega), h1]
 have hds := (hC.inv.node i).data
 subst hus
 refine ⟨R', IsDisk.turn hC hcl hi ((hC.inv.node i).setData hi (by omega) (s := over ((nd d i).data ++ noughts (max (nd d i).data.size (x + s.size) - (nd d i).data.size)) x s) (by rw [hsz]; omega)) rfl rfl (fun e => e) hR3 ?_ hfit hmax, ?_⟩
 ·have := mass_upd (n := writeNd (nd d i) x s) hi
  have e : mass1 (writeNd (nd d i) x s) = mass1 (nd d i) := rfl
  have := hC.small
  unfold smallD at *
  unfold writeNd at *
  omega
 ·have k3 : Keeps R'.F (w2.setCell ⟨R.g i, 4, none⟩ v) w4 := (Keeps.refl _ _).step hk4 (fun g hg => .inl (by
   have := hR2.tagD i hi2 g (by rw [hdv']; exact hg)
   unfold RD.F
   rw [this]
   exact fun h => by cases h))
  exact ((Turn.of (hk1.mono (fun g _ e => by subst e; exact hC.rep.fA))).trans hT).trans (Turn.of k3)
theorem write_facts {lk up : Int -> Int} {us1 : Int} {w1 : World} {i : Int} {x : Nat} {s : ByteArray} {p : Option Addr} {cap : Nat} (hC : Casc R w a d room lk up zp) (hcl : NoGarb d) (hi : has d i) (hk1 : (nd d i).kind = 1) (hmax : room <= 9223372036854775807)
 (hx : x + s.size <= 4194304) (h0 : 0 < s.size) (hus : us1 = ((used (upd d i (writeNd (nd d i) x s)) : Nat) : Int)) (hfit : us1 <= room)
 (hR1 : Rep R w1 a d room us1 lk up) (hk1 : Keeps (fun x => x = a) w w1) (hv : R.dv i = .slice p (nd d i).data.size cap) :
 ∃ p' n' c' w2 w4, w1.drew.cell? ⟨R.g i, 4, none⟩ = some (.slice p (nd d i).data.size cap) ∧ w1.drew.frozen? ⟨R.g i, 4, none⟩ = false ∧ w2.cell? ⟨R.g i, 4, none⟩ = some (.slice p (nd d i).data.size cap) ∧ w2.frozen? ⟨R.g i, 4, none⟩ = false ∧
   (Builtin.append_ #[81, 3] 81 #[.slice p (nd d i).data.size cap, .int .i64 ((max (nd d i).data.size (x + s.size) - (nd d i).data.size : Nat) : Int)]).run Tryz.prog w1.drew = .ok (.slice p' n' c') w2 ∧
   (Instr.slice 81 (.slice p' n' c') (some (.int .i64 x)) none none).run Tryz.prog (w2.setCell ⟨R.g i, 4, none⟩ (.slice p' n' c')) = .ok (.slice (subAt 1 p' c' x) (n' - x) (c' - x)) (w2.setCell ⟨R.g i, 4, none⟩ (.slice p' n' c')) ∧
   (Builtin.copy_ #[81, 9] 3 #[.slice (subAt 1 p' c' x) (n' - x) (c' - x), .string s]).run Tryz.prog (w2.setCell ⟨R.g i, 4, none⟩ (.slice p' n' c')) = .ok (goInt s.size) w4 ∧
   R.g i < w1.drew.heap.size ∧ DiskTo R w a (upd d i (writeNd (nd d i) x s)) room w4 := by
 have hR1 := hR1.keepN ((Keeps.refl NoB w1).drew)
 have hk1 := hk1.drew
 have hn1 := hR1.node i hi
 have hsz : ((nd d i).data ++ noughts (max (nd d i).data.size (x + s.size) - (nd d i).data.size)).size = max (nd d i).data.size (x + s.size) := by rw [ByteArray.size_append, noughts_size]; omega
 have hds := (hC.inv.node i).data
 obtain ⟨v', w2, hz, ho2, hk2, hv2⟩ := hn1.own.zeros (P := Tryz.prog) (t := 81) (tn := 3) (e := 5) 81 Tryz.underlying81 Tryz.underlying3 (i := (Tryz.prog.info? 5).get!) (by kernel_rfl) (by kernel_rfl) (by kernel_rfl) (by kernel_rfl) (max (nd d i).data.size (x + s.size) - (nd d i).data.size) (by omega) trivial
 have hgd := hR1.dvne hi
 have hgv : ¬ v'.ownBlock = some (R.g i) := fun e => by
  rcases hv2 _ e with h1 | h1
  ·exact hgd h1
  ·have := hn1.lt; omega
 have hc2 : w2.cell? ⟨R.g i, 4, none⟩ = w1.cell? ⟨R.g i, 4, none⟩ := hk2.cell (p := ⟨R.g i, 4, none⟩) hn1.lt hgd
 have hf2 : w2.frozen? ⟨R.g i, 4, none⟩ = w1.frozen? ⟨R.g i, 4, none⟩ := hk2.frozen (p := ⟨R.g i, 4, none⟩) hn1.lt hgd
 have hd4 := hn1.data
 obtain ⟨p', c', hv'⟩ := ho2.form
 have hmax2 := ho2.small
 have ho3 : OwnB (fun _ => True) (w2.setCell ⟨R.g i, 4, none⟩ v') v' ((nd d i).data ++ noughts (max (nd d i).data.size (x + s.size) - (nd d i).data.size)) :=
  ho2.keep (keeps_set w2 ⟨R.g i, 4, none⟩ v') (fun g hg e => by
   have e' : g = R.g i := e
   subst e'; exact hgv hg)
 obtain ⟨w4, hcp, ho4, hk4⟩ := ho3.over (P := Tryz.prog) (t := 81) (tn := 9) (e := 5) 3 Tryz.underlying81 (i := (Tryz.prog.info? 5).get!) (by kernel_rfl) (by kernel_rfl) hv' x s h0 (by rw [hsz]; omega)
 have hsl := run_slice_l (P := Tryz.prog) 81 5 1 Tryz.underlying81 (by kernel_rfl) p' ((nd d i).data ++ noughts (max (nd d i).data.size (x + s.size) - (nd d i).data.size)).size c' x (by rw [hsz]; omega) (w2.setCell ⟨R.g i, 4, none⟩ v') (by rw [hsz]; omega)
 have hend := write_end hC hcl hi (by assumption) hmax hx h0 hus hfit hR1 hk1 ho2 hk2 hv2 ho4 hk4
 rw [hv] at hz hd4
 subst hv'
 exact ⟨p', _, c', w2, w4, hd4, hn1.fz 4, hc2.trans hd4, hf2.trans (hn1.fz 4), hz, hsl, hcp, hn1.lt, hend⟩
theorem write_ok (h : IsDisk R w a d room) (i : Int) (X : Nat) (s : ByteArray) (he : writeErr d room i X s = 0) (h0 : s.size ≠ 0) :
 Calls Tryz.prog 24 #[.pointer (some ⟨a, 0, none⟩), .int .i64 i, .int .i64 X, .string s] w fun e w' => e = .returned (.int .i64 0) ∧ DiskTo R w a (upd d i (writeNd (nd d i) X s)) room w' := by
 have H := Lib.hid h
 obtain ⟨⟨lk, up, hC⟩, hcl, hfit, hmax⟩ := h
 unfold writeErr at he
 split at he
 ·next e => exact absurd he e
 next hf0 =>
 split at he; · cases he
 split at he; · cases he
 split at he; · cases he
 split at he; · cases he
 next c1 c2 c3 c4 =>
 have hf := file_any hC.rep i
 have hfe : fileErr d i = 0 := Classical.not_not.1 hf0
 obtain ⟨hi, hk1⟩ := fileErr_zero hfe
 rw [hfe] at hf
 have hp : ptrIf R 0 i = .pointer (some ⟨R.g i, 0, none⟩) := rfl
 rw [hp] at hf
 have hn := hC.rep.node i hi
 obtain ⟨p, cap, hv⟩ := hn.own.form
 have hd4 := hn.data
 rw [hv] at hd4
 have hul := used_le2 hC.inv hC.small
 have hds := (hC.inv.node i).data
 unfold endOf at c4
 rw [Int.toNat_natCast] at c4
 have hX : X + s.size <= 4194304 := by omega
 have hmx : max ((nd d i).data.size : Int) ((X : Int) + (s.size : Int)) - ((nd d i).data.size : Int) = ((max (nd d i).data.size (X + s.size) - (nd d i).data.size : Nat) : Int) := by omega
 have hus : (used d : Int) + ((max (nd d i).data.size (X + s.size) - (nd d i).data.size : Nat) : Int) = ((used (upd d i (writeNd (nd d i) X s)) : Nat) : Int) := by
  have := used_upd (n := writeNd (nd d i) X s) hi
  have e : room1 (writeNd (nd d i) X s) = room1 (nd d i) + (max (nd d i).data.size (X + s.size) - (nd d i).data.size) := by
   unfold room1 writeNd
   simp only [Nd.setData]
   have h1 : ((nd d i).data ++ noughts (max (nd d i).data.size (X + s.size) - (nd d i).data.size)).size = max (nd d i).data.size (X + s.size) := by rw [ByteArray.size_append, noughts_size]; omega
   rw [over_size (by rw [h1]; omega), h1]
   omega
  omega
 have hfit1 : (used d : Int) + ((max (nd d i).data.size (X + s.size) - (nd d i).data.size : Nat) : Int) <= room := by omega
 have htake := take_any hC.rep (max ((nd d i).data.size : Int) ((X : Int) + (s.size : Int)) - ((nd d i).data.size : Int)) (by omega) hfit hmax (by omega) (by omega)
 rw [show decide (max ((nd d i).data.size : Int) ((X : Int) + (s.size : Int)) - ((nd d i).data.size : Int) <= room - used d) = true from decide_eq_true (by omega), show takeU room (used d) (max ((nd d i).data.size : Int) ((X : Int) + (s.size : Int)) - ((nd d i).data.size : Int)) = (used d : Int) + ((max (nd d i).data.size (X + s.size) - (nd d i).data.size : Nat) : Int) from by rw [hmx]; exact if_pos (by omega)] at htake
 have hne : (s.toList == []) = false := beq_false_of_ne (fun e => h0 ((toList_nil s).1 e))
 have hap : ¬ R.g i = a := fun e => by have := hC.rep.tagN i hi; rw [e, hC.rep.tagA] at this; cases this
 have hgl := hn.lt
 have hfz := hn.fz 4
 have hX2 : (X : Int) <= 4194304 := by omega
 have hs2 : (s.size : Int) <= 4194304 - (X : Int) := by omega
 have hds2 : ((nd d i).data.size : Int) <= 4194304 := by omega
 have HG := Lib.hid (fun (w1 : World) (hR1 : Rep R w1 a d room ((used d : Int) + ((max (nd d i).data.size (X + s.size) - (nd d i).data.size : Nat) : Int)) lk up) (hk1' : Keeps (fun x => x = a) w w1) => write_facts hC hcl hi hk1 hmax hX (by omega) hus hfit1 hR1 hk1' hv)
 clear hC hcl hfit hmax hul hds hX hus hfit1 c1 c2 c3 c4 hf0 hfe hn he h0 hi hk1 hv H
 generalize (nd d i).data.size = ds at *
 generalize hkk : ((max ds (X + s.size) - ds : Nat) : Int) = kk at *
 rw [hmx] at htake
 have hkw : IntKind.i64.wrap kk = kk := by rw [IntKind.wrap_i64]; omega
 clear hkk
 go_enter Tryz.func24, Tryz.ntmps24
 go_wp2_with (first | (go_at_call 54; refine hf.mono ?_; rintro e w1 ⟨rfl, rfl⟩) | (go_at_call 55; refine htake.mono ?_; rintro e w1 ⟨rfl, hR1, hk1⟩; obtain ⟨p', n', c', w2, w4, e1, f1, e2, f2, q1, q2, q3, q4, hend⟩ := HG.out w1 hR1 hk1; simp only [World.cell?_drew, World.frozen?_drew] at e1 f1))
 go_region_law (refine step_append_run rfl (.tmp 62) (.tmp 69) _ _ rfl q1 (by simp [Act.eval, Act.put]) (by simp [Act.eval, Act.put, hkw]) ?_)
 all_goals go_wp2
 all_goals
  go_ret
  exact ⟨rfl, hend⟩
theorem write_no (h : IsDisk R w a d room) (i x : Int) (s : ByteArray) (hsz : s.size <= 4294967296) (he : ¬ (writeErr d room i x s = 0 ∧ s.size ≠ 0)) :
 Calls Tryz.prog 24 #[.pointer (some ⟨a, 0, none⟩), .int .i64 i, .int .i64 x, .string s] w fun e w' => e = .returned (.int .i64 (writeErr d room i x s)) ∧ DiskTo R w a d room w' := by
 have H := Lib.hid h
 obtain ⟨⟨lk, up, hC⟩, hcl, hfit, hmax⟩ := h
 have hf := file_any hC.rep i
 unfold writeErr at he ⊢
 by_cases c0 : fileErr d i = 0
 case neg =>
  rw [if_pos c0]
  have hp : ptrIf R (fileErr d i) i = .pointer none := if_neg c0
  rw [hp] at hf
  clear hC hcl hfit hmax he
  generalize fileErr d i = er at hf c0
  go_enter Tryz.func24, Tryz.ntmps24
  go_wp2_with (go_at_call 54; refine hf.mono ?_; rintro e w1 ⟨rfl, rfl⟩)
  go_ret
  exact ⟨rfl, H.out.same (Keeps.refl _ _)⟩
 case pos =>
 rw [if_neg (by simpa using c0)] at he ⊢
 obtain ⟨hi, hk1⟩ := fileErr_zero c0
 rw [c0] at hf
 have hp : ptrIf R 0 i = .pointer (some ⟨R.g i, 0, none⟩) := rfl
 rw [hp] at hf
 by_cases c1 : x < 0
 ·rw [if_pos c1]
  clear hC hcl hfit hmax he
  go_enter Tryz.func24, Tryz.ntmps24
  go_wp2_with (go_at_call 54; refine hf.mono ?_; rintro e w1 ⟨rfl, rfl⟩)
  go_ret
  exact ⟨rfl, H.out.same (Keeps.refl _ _)⟩
 rw [if_neg c1] at he ⊢
 by_cases c2 : s.size = 0
 ·rw [if_pos c2]
  have hs : s = ⟨#[]⟩ := ByteArray.ext (Array.eq_empty_of_size_eq_zero c2)
  subst hs
  clear hC hcl hfit hmax he
  go_enter Tryz.func24, Tryz.ntmps24
  go_wp2_with (go_at_call 54; refine hf.mono ?_; rintro e w1 ⟨rfl, rfl⟩)
  go_ret
  exact ⟨rfl, H.out.same (Keeps.refl _ _)⟩
 rw [if_neg c2] at he ⊢
 have hne : (s.toList == []) = false := beq_false_of_ne (fun e => c2 ((toList_nil s).1 e))
 by_cases c3 : 4194304 < x
 ·rw [if_pos c3]
  clear hC hcl hfit hmax he
  go_enter Tryz.func24, Tryz.ntmps24
  go_wp2_with (go_at_call 54; refine hf.mono ?_; rintro e w1 ⟨rfl, rfl⟩)
  go_ret
  exact ⟨rfl, H.out.same (Keeps.refl _ _)⟩
 rw [if_neg c3] at he ⊢
 by_cases c4 : 4194304 - x < s.size
 ·rw [if_pos c4]
  clear hC hcl hfit hmax he
  go_enter Tryz.func24, Tryz.ntmps24
  go_wp2_with (go_at_call 54; refine hf.mono ?_; rintro e w1 ⟨rfl, rfl⟩)
  go_ret
  exact ⟨rfl, H.out.same (Keeps.refl _ _)⟩
 rw [if_neg c4] at he ⊢
 obtain ⟨X, rfl⟩ : ∃ X : Nat, x = (X : Int) := ⟨x.toNat, by omega⟩
 by_cases c5 : room - used d < endOf d i X s - (nd d i).data.size
 case neg =>
  rw [if_neg c5] at he
  exact absurd ⟨rfl, c2⟩ he
 rw [if_pos c5]
 unfold endOf at c5
 rw [Int.toNat_natCast] at c5
 have hn := hC.rep.node i hi
 obtain ⟨p, cap, hv⟩ := hn.own.form
 have hd4 := hn.data
 rw [hv] at hd4
 have hul := used_le2 hC.inv hC.small
 have hds := (hC.inv.node i).data
 have hmx : max ((nd d i).data.size : Int) ((X : Int) + (s.size : Int)) - ((nd d i).data.size : Int) = ((max (nd d i).data.size (X + s.size) - (nd d i).data.size : Nat) : Int) := by omega
 have htake := take_any hC.rep ((max (nd d i).data.size (X + s.size) - (nd d i).data.size : Nat) : Int) (by omega) hfit hmax (by omega) (by omega)
 rw [show decide (((max (nd d i).data.size (X + s.size) - (nd d i).data.size : Nat) : Int) <= room - used d) = false from decide_eq_false (by omega), show takeU room (used d) ((max (nd d i).data.size (X + s.size) - (nd d i).data.size : Nat) : Int) = (used d : Int) from if_neg (by omega)] at htake
 have hfa := hC.rep.fA
 have HE := Lib.hid (fun (w1 : World) (hR : Rep R w1 a d room (used d) lk up) (hk : Keeps (fun x => x = a) w w1) => (⟨R, ⟨⟨lk, up, hC.re hR⟩, hcl, hfit, hmax⟩, Turn.of (hk.mono (fun x _ hx => by subst hx; exact hfa))⟩ : DiskTo R w a d room w1))
 have hds2 : ((nd d i).data.size : Int) <= 4194304 := by omega
 clear hC hcl hfit hmax hul hds c5 c0 hn he hi hk1 hv H
 generalize (nd d i).data.size = ds at *
 generalize hkk : ((max ds (X + s.size) - ds : Nat) : Int) = kk at *
 have hkw : IntKind.i64.wrap kk = kk := by rw [IntKind.wrap_i64]; omega
 clear hkk
 go_enter Tryz.func24, Tryz.ntmps24
 go_wp2_with (first | (go_at_call 54; refine hf.mono ?_; rintro e w1 ⟨rfl, rfl⟩) | (go_at_call 55; refine htake.mono ?_; rintro e w1 ⟨rfl, hR1, hk1⟩))
 go_ret
 exact ⟨rfl, HE.out _ hR1 hk1⟩
theorem writeD_any (h : IsDisk R w a d room) (i x : Int) (s : ByteArray) (hsz : s.size <= 4294967296) :
 Calls Tryz.prog 24 #[.pointer (some ⟨a, 0, none⟩), .int .i64 i, .int .i64 x, .string s] w fun e w' => e = .returned (.int .i64 (writeErr d room i x s)) ∧ DiskTo R w a (writeTo d room i x s) room w' := by
 unfold writeTo
 by_cases he : writeErr d room i x s = 0 ∧ s.size ≠ 0
 ·rw [if_pos he, he.1]
  have hx : ¬ x < 0 := fun hx => by
   have h1 := he.1
   unfold writeErr at h1
   split at h1
   ·next e => exact e h1
   ·cases h1
  obtain ⟨X, rfl⟩ : ∃ X : Nat, x = (X : Int) := ⟨x.toNat, by omega⟩
  rw [Int.toNat_natCast]
  exact write_ok h i X s he.1 he.2
 ·rw [if_neg he]; exact write_no h i x s hsz he
end
set_option maxRecDepth 100000
set_option maxHeartbeats 2000000
theorem boxed {w w1 : World} {cs : Array Value} {T : TypeId} (hk : Keeps NoB (w.alloc (.cells cs T)) w1) (j : Nat) (v : Value) (hv : cs[j]? = some v) : w1.cell? ⟨w.heap.size, j, none⟩ = some v := by
 have hn := heap_alloc_new w (.cells cs T)
 have h4 := (hk.block w.heap.size (by simp) (fun h => h)).trans hn
 rw [cell_of_row w1 _ j _ T (0, 0) h4]
 exact hv
section
variable {S : Nat -> Prop} {w : World} {p : Option Addr} {c : Nat} {d : Nds} {room : Int}
end
set_option maxRecDepth 100000
set_option maxHeartbeats 1000000
theorem Kills.garb {d d' : Nds} {i : Int} (h : Garb d i) (k : Kills d d') (hh : has d' i) : Garb d' i := by
 induction k with
 | refl => exact h
 | step j hj _ ih =>
   by_cases e : i = j
   ·subst e
    have := (Kills.was ‹_› hh).1
    exact absurd rfl ((has_kill hj.1).1 this).1
   ·exact ih (h.other hj.1 e) hh
end Go.Proofs.YtimidmogcbapnaaGreatDoor
