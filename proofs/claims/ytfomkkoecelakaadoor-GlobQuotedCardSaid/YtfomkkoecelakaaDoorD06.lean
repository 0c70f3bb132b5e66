/-
  Layer 21: what a globber finds (plain), and a globber in memory.
-/
import Derived.Test.YtfomkkoecelakaaDoorD05
import Derived.Test.YtfomkkoecelakaaDoorD04
import Derived.Test.YtfomkkoecelakaaDoorD03
import Derived.Test.YtfomkkoecelakaaDoorB24
import Derived.BigQuiet
import Derived.Deep.RegionWith
import Derived.Deep.RegionHeld3
import Derived.StillTailTactics

set_option linter.unusedSimpArgs false
set_option linter.unusedVariables false

set_option maxRecDepth 100000
set_option maxHeartbeats 8000000
namespace Go.Proofs.YtfomkkoecelakaaDoor
open Go Go.RowKit

/-- What a pattern tells: is it more than a text, does it begin with a dot, which texts are its own. -/
structure FP where
  means : Bool
  dot : Bool
  mt : ByteArray → Bool

/-- Does a name begin with a dot? -/
def hasDot (s : ByteArray) : Bool := s.data.toList.head? == some 46
/-- A name is taken. -/
def takes (p : FP) (s : ByteArray) : Bool := (!hasDot s || p.dot) && p.mt s

/-- One step: behind head, k goes on. -/
noncomputable def lkStep (d : Nds) (at' : Int) (p : FP) (tx : ByteArray) (k : List ByteArray → ByteArray → List ByteArray) (out : List ByteArray) (head : ByteArray) : List ByteArray :=
  if 4096 ≤ out.length then out
  else if p.means = false then k out (head ++ tx)
  else if lstE d (thrR d at' (if head.size = 0 then ⟨#[46]⟩ else head) true) ≠ 0 then out
  else (nd d (thrR d at' (if head.size = 0 then ⟨#[46]⟩ else head) true).1.node).ents.foldl (fun o e => if takes p e.1 = true then k o (head ++ e.1) else o) out
/-- The end of a path: it is told, if it is there. -/
noncomputable def glEnd (d : Nds) (at' : Int) (out : List ByteArray) (s : ByteArray) : List ByteArray :=
  if s.size ≠ 0 ∧ (thrR d at' s false).2 = 0 ∧ out.length < 4096 then out ++ [s] else out
/-- What found tells. -/
noncomputable def glR (d : Nds) (at' : Int) (fp : List Pc → FP) : List (List Pc) → List ByteArray → ByteArray → List ByteArray
  | [], out, s => glEnd d at' out s
  | f :: l, out, s => lkStep d at' (fp f) ⟨(fiL f).toArray⟩ (glR d at' fp l) out (s ++ ⟨#[47]⟩)

section
variable {N : Nat → Prop} {w w' w2 : World} {F a : Nat} {d d' : Nds} {room calls fail : Int}

/-- Guarded blocks turn, and new ones come. -/
theorem FSt.widerG {G : Nat → Prop} (h : FSt N w F a d room calls fail) (k : Keeps G w w') (hG : ∀ g, G g → N g) : FSt (fun g => N g ∨ (w.heap.size ≤ g ∧ g < w'.heap.size)) w' F a d room calls fail := by
  have h4 := h.keep k hG
  have hl := h.lt
  refine ⟨h.pd.grow k (fun x _ hx => .inl (hG x hx)) (fun x hx => ?_), fun hx => hx.elim h.notN (fun e => by omega), h4.c0, h4.c1, h4.c2, h4.fz⟩
  rcases hx with (hx | hx) | rfl
  · exact .inl (.inl hx)
  · exact .inr hx
  · exact .inl (.inr rfl)

/-- A globber at G. -/
structure GlAt (w : World) (F a : Nat) (d : Nds) (room calls fail : Int) (G : Nat) (at' mask : Int) (v : Value) (out : List ByteArray) : Prop where
  ex : ∃ N : Nat → Prop, FSt N w F a d room calls fail ∧ N G ∧ ∀ g, v.ownBlock = some g → N g
  box : Bk w G [.pointer (some ⟨F, 0, none⟩), .int .i64 at', .int .i64 mask, v]
  own : Own encStr 9 (fun g => g ≠ G) w v out

/-- From one moment to another. -/
structure GlR (w : World) (v : Value) (F a : Nat) (d : Nds) (room calls fail : Int) (G : Nat) (at' mask : Int) (w' : World) (v' : Value) (out' : List ByteArray) : Prop where
  st : GlAt w' F a d room calls fail G at' mask v' out'
  keeps : Keeps (fun g => g = G ∨ v.ownBlock = some g) w w'
  own : ∀ g, v'.ownBlock = some g → v.ownBlock = some g ∨ w.heap.size ≤ g

def GlTo (w : World) (v : Value) (F a : Nat) (d : Nds) (room calls fail : Int) (G : Nat) (at' mask : Int) (out' : List ByteArray) : Ending → World → Prop := fun e w' =>
  e = .returned (.tuple #[]) ∧ ∃ v', GlR w v F a d room calls fail G at' mask w' v' out'

variable {G : Nat} {at' mask : Int} {v v' v2 : Value} {out out' out2 : List ByteArray}

theorem GlAt.on (h : GlAt w F a d room calls fail G at' mask v out) (k : Keeps NoB w w') : GlAt w' F a d room calls fail G at' mask v out := by
  obtain ⟨N, h1, h2, h3⟩ := h.ex
  exact ⟨⟨N, h1.on k, h2, h3⟩, h.box.on k, h.own.keep k (fun _ _ h => h)⟩
theorem GlAt.refl (h : GlAt w F a d room calls fail G at' mask v out) : GlR w v F a d room calls fail G at' mask w v out := ⟨h, Keeps.refl _ _, fun _ h => .inl h⟩
theorem GlR.on (h : GlR w v F a d room calls fail G at' mask w' v' out') (k : Keeps NoB w' w2) : GlR w v F a d room calls fail G at' mask w2 v' out' :=
  ⟨h.st.on k, h.keeps.trans k.of_none, h.own⟩
theorem GlR.trans (h : GlR w v F a d room calls fail G at' mask w' v' out') (h2 : GlR w' v' F a d room calls fail G at' mask w2 v2 out2) : GlR w v F a d room calls fail G at' mask w2 v2 out2 :=
  ⟨h2.st, h.keeps.step h2.keeps (fun g hg => hg.elim (fun e => .inl (.inl e)) (fun e => (h.own g e).elim (fun e => .inl (.inr e)) .inr)), fun g hg => (h2.own g hg).elim (h.own g) (fun e => .inr (Nat.le_trans h.keeps.size e))⟩
theorem GlAt.from' {w0 : World} (h : GlAt w F a d room calls fail G at' mask v out) (k : Keeps NoB w0 w) (hv : ∀ g, v.ownBlock = some g → g < w0.heap.size) (h2 : GlR w v F a d room calls fail G at' mask w' v' out') : GlR w0 v F a d room calls fail G at' mask w' v' out' :=
  ⟨h2.st, k.of_none.trans h2.keeps, fun g hg => (h2.own g hg).elim .inl (fun e => .inr (Nat.le_trans k.size e))⟩

/-- Fields in memory, which the globber's own blocks are none of. -/
structure FldS (S : Nat → Prop) (w : World) (p : Option Addr) (c : Nat) (fl : List (List Pc)) : Prop where
  ex : ∃ hs : List SvH, hs.length = fl.length ∧ SlAt encSv S w p c hs ∧ ∀ (i : Nat) x l, hs[i]? = some x → fl[i]? = some l → x.2.1 = l.length ∧ SlAt encPc S w x.1 x.2.2 l
theorem FldS.keepS {S S' Fr : Nat → Prop} {p : Option Addr} {c : Nat} {fl : List (List Pc)} (h : FldS S w p c fl) (k : Keeps Fr w w') (hF : ∀ g, S g → g < w.heap.size → ¬ Fr g) (hS : ∀ g, S g → g < w.heap.size → S' g) : FldS S' w' p c fl := by
  obtain ⟨hs, h1, h2, h3⟩ := h.ex
  exact ⟨⟨hs, h1, h2.keepS k hF hS, fun i x l hx hl => ⟨(h3 i x l hx hl).1, (h3 i x l hx hl).2.keepS k hF hS⟩⟩⟩
theorem FldS.cap {S : Nat → Prop} {p : Option Addr} {c : Nat} {fl : List (List Pc)} (h : FldS S w p c fl) : fl.length ≤ c ∧ c ≤ maxLen := by
  obtain ⟨hs, h1, h2, h3⟩ := h.ex
  exact ⟨by rw [← h1]; exact h2.cap, h2.max⟩
theorem FldS.tail {S : Nat → Prop} {p : Option Addr} {c : Nat} {f : List Pc} {fl : List (List Pc)} (h : FldS S w p c (f :: fl)) : FldS S w (subAt 1 p c 1) (c - 1) fl := by
  obtain ⟨hs, h1, h2, h3⟩ := h.ex
  have h4 := h2.sub 1 hs.length (by rw [h1]; simp) (Nat.le_refl _)
  rw [List.take_length] at h4
  refine ⟨⟨hs.drop 1, by rw [List.length_drop, h1]; simp, h4, fun i x l hx hl => h3 (i + 1) x l ?_ (by simpa using hl)⟩⟩
  rw [List.getElem?_drop] at hx
  rw [Nat.add_comm]; exact hx
/-- The first field. -/
theorem FldS.head {S : Nat → Prop} {p : Option Addr} {c : Nat} {f : List Pc} {fl : List (List Pc)} (h : FldS S w p c (f :: fl)) :
    ∃ g off q cq, p = some ⟨g, off, none⟩ ∧ S g ∧ g < w.heap.size ∧ w.cell? ⟨g, off, none⟩ = some (.slice q f.length cq) ∧ SlAt encPc S w q cq f := by
  obtain ⟨hs, h1, h2, h3⟩ := h.ex
  obtain ⟨x, hx⟩ : ∃ x, hs[0]? = some x := ⟨_, List.getElem?_eq_getElem (by rw [h1]; simp)⟩
  obtain ⟨g, off, hp, hS, hg, hc⟩ := h2.at hx
  obtain ⟨h4, h5⟩ := h3 0 x f hx rfl
  refine ⟨g, off, x.1, x.2.2, hp, hS, hg, ?_, h5⟩
  have := hc 0 _ rfl
  simp only [Nat.zero_mul, Nat.add_zero] at this
  rw [this]
  unfold svV
  rw [h4]

/-- A pattern that has been made: what its methods answer, whatever turns of other blocks than its own. -/
def PatAt (lo : Nat) (w : World) (v : Value) (p : FP) : Prop := ∀ (Fr : Nat → Prop) (w2 : World), Keeps Fr w w2 → (∀ g, lo ≤ g → g < w.heap.size → ¬ Fr g) →
  (Calls Tryd.prog 33 #[.agg #[v]] w2 fun e w' => e = .returned (.bool p.means) ∧ Keeps NoB w2 w') ∧
  (Calls Tryd.prog 36 #[.agg #[v]] w2 fun e w' => e = .returned (.bool p.dot) ∧ Keeps NoB w2 w') ∧
  (∀ s : ByteArray, s.size ≤ 1000 → Calls Tryd.prog 37 #[.agg #[v], .string s] w2 fun e w' => e = .returned (.bool (p.mt s)) ∧ Keeps NoB w2 w')
/-- A field's pattern is what fp tells. -/
def PatOk (fp : List Pc → FP) (f : List Pc) : Prop := ∀ (S1 : Nat → Prop) (w : World) (pa : Option Addr) (ca : Nat), SlAt encPc S1 w pa ca f →
  Calls Tryd.prog 32 #[.slice pa f.length ca] w fun e w' => ∃ p n c, e = .returned (.agg #[.slice p n c]) ∧ PatAt w.heap.size w' (.slice p n c) (fp f) ∧ Keeps NoB w w'

/-- Patterns without sets. -/
noncomputable def fpL (f : List Pc) : FP := ⟨meansL (prL (sgL f)), dotL (prL (sgL f)), fun s => @decide (Mt (ptL (prL (sgL f))) s.data.toList) (Classical.propDecidable _)⟩
theorem patOk_any (f : List Pc) (hn : f.length ≤ 1000) (hz : ∀ p ∈ f, p.1.size ≤ 1000) (hb : ∀ g ∈ sgL f, g.2 = false → g.1 ≠ 91) : PatOk fpL f := by
  intro S1 w pa ca ha
  refine (compile_any ha (by omega) (fun p hp => by have := hz p hp; omega) hb).mono ?_
  rintro e w' ⟨v, rfl, hsl, hk⟩
  obtain ⟨p, c, rfl, hs⟩ := hsl
  refine ⟨_, _, _, rfl, ?_, hk⟩
  intro Fr w2 k2 hF
  have h2 := hs.keep k2 hF
  have hl := sgL_len f 1000 hz
  have hl2 : f.length * 1000 ≤ 1000 * 1000 := Nat.mul_le_mul_right _ hn
  refine ⟨means_any h2, dot_any h2, fun s hsz => (match_any h2 (fun x hx => ?_) s (by omega) (by unfold prL; rw [List.length_map]; omega)).mono ?_⟩
  · unfold prL at hx
    obtain ⟨g, _, rfl⟩ := List.mem_map.1 hx
    unfold partOf
    split
    · rename_i h
      rcases h.2 with h | h
      · exact .inr (.inl h)
      · exact .inr (.inr h)
    · exact .inl rfl
  · rintro e w3 ⟨r, rfl, hr, hk3⟩
    refine ⟨?_, hk3⟩
    have : r = (fpL f).mt s := by
      unfold fpL
      cases r with
      | true => exact (@decide_eq_true _ (Classical.propDecidable _) (hr.1 rfl)).symm
      | false => exact (@decide_eq_false _ (Classical.propDecidable _) (fun h => by have := hr.2 h; cases this)).symm
    rw [this]
end

end Go.Proofs.YtfomkkoecelakaaDoor

/-
  Layer 21: contracts of package glob: found.
-/
set_option maxRecDepth 100000
set_option maxHeartbeats 8000000
namespace Go.Proofs.YtfomkkoecelakaaDoor
open Go Go.RowKit

section
variable {w w' w2 : World} {F a : Nat} {d d' : Nds} {room calls fail : Int} {G : Nat} {at' mask : Int} {v v' v2 : Value} {out out' out2 : List ByteArray}

theorem found_nil (h : GlAt w F a d room calls fail G at' mask v out) (s : ByteArray) (hs : s.size ≤ 4294967280) (p : Option Addr) (c : Nat) :
    Calls Tryd.prog 34 #[.pointer (some ⟨G, 0, none⟩), .string s, .slice p 0 c] w (GlTo w v F a d room calls fail G at' mask (glEnd d at' out s)) := by
  have HA := Lib.hid h
  by_cases hz : s.size = 0
  · have he : s.toList.isEmpty = true := by rw [emp_d]; simp [hz]
    have hg : glEnd d at' out s = out := by unfold glEnd; rw [if_neg (fun h => h.1 hz)]
    rw [hg]
    clear h hg
    go_enter Tryd.func34, Tryd.ntmps34
    go_wp2_with fail
    go_end0
    exact ⟨rfl, v, HA.out.refl⟩
  have he : s.toList.isEmpty = false := by rw [emp_d]; simp [hz]
  have HT : Hid (Calls Tryd.prog 55 #[.pointer (some ⟨G, 0, none⟩), .string s] w fun e w' => e = .returned (.bool (decide ((thrR d at' s false).2 = 0))) ∧ Keeps NoB w w') := by
    obtain ⟨N, h1, _, _⟩ := h.ex
    exact Lib.hid (there21_any h1 h.box s hs)
  by_cases ht : (thrR d at' s false).2 = 0
  · rw [decide_eq_true ht] at HT
    have hlt := Lib.hid h.own.sl
    obtain ⟨vp, vc, rfl, hsl⟩ := hlt.out
    have HL := Lib.hid hsl.cap
    have hmax := hsl.max
    unfold maxLen at hmax
    have HL2 := HL.out
    by_cases hl : out.length < 4096
    · have hlz : (out.length : Int) < 4096 := by omega
      have hg : glEnd d at' out s = out ++ [s] := by unfold glEnd; rw [if_pos ⟨hz, ht, hl⟩]
      rw [hg]
      clear hg h ht hlt hsl
      go_enter Tryd.func34, Tryd.ntmps34
      go_upto_region 3 with (go_at_call 55; go_loud (refine HT.out.mono ?_); rintro e w4 ⟨rfl, hk4⟩; have b3 := (HA.out.box.on hk4).cell 3 _ rfl; have bl := (HA.out.box.on hk4).lt; have bz := (HA.out.box.on hk4).fz)
      have ka : Keeps NoB w4 (w4.alloc (.cells #[.string s] 9)) := (Keeps.refl NoB w4).alloc _
      have HO4 := Lib.hid ((HA.out.on hk4).own)
      have HA4 := Lib.hid (HA.out.on hk4)
      have HK4 := Lib.hid hk4
      clear hk4
      obtain ⟨vv, hvv⟩ : ∃ vv, Value.slice vp out.length vc = vv := ⟨_, rfl⟩
      rw [hvv] at b3 HO4 HA4 HA ⊢
      clear hvv
      go_wp2_with (at_builtin; go_loud (refine wpl_append rfl (.tmp 33) (.tmp 35) rfl tStr (HO4.out.keep ka (fun _ _ h => h)) (own_lit (S := fun _ => True) [s] #[.string s] rfl 1 rfl trivial (by decide)).sl rfl rfl (by simp; omega) (by simp [maxLen]; omega) (by simp; omega) ?_))
      intro v' w5 ho hk2 hf2
      have hBx := ((HA4.out.box.on ka).keep hk2 (fun e => (HO4.out.2 G e) rfl))
      have HBx := Lib.hid hBx
      obtain ⟨v5, c5, rfl, _⟩ := ho.sl
      have b4 := hBx.cell 3 _ rfl
      have l4 := hBx.lt
      have z4 := hBx.fz
      have hR : GlR w vv F a d room calls fail G at' mask (w5.setCell ⟨G, 3, none⟩ (.slice v5 (out ++ [s]).length c5)) (.slice v5 (out ++ [s]).length c5) (out ++ [s]) := by
        obtain ⟨N, n1, n2, n3⟩ := HA4.out.ex
        have n4 := ((n1.on ka).widerG hk2 (fun g hg => n3 g hg)).keep (kset w5 ⟨G, 3, none⟩ (.slice v5 (out ++ [s]).length c5)) (fun g hg => .inl (by rw [show g = G from hg]; exact n2))
        refine ⟨⟨⟨_, n4, .inl n2, fun g hg => ?_⟩, hBx.put 3 _, ho.keep (kset w5 ⟨G, 3, none⟩ (.slice v5 (out ++ [s]).length c5)) (fun g hg e => ho.2 g hg (show g = G from e))⟩, ?_, fun g hg => ?_⟩
        · rcases hf2 g hg with e | e
          · exact .inl (n3 g e)
          · exact .inr ⟨by simpa using e, ho.lt g hg⟩
        · exact (((HK4.out.trans ka).of_none).trans (hk2.mono (fun g _ hg => .inr hg))).setCell (.inl (.inl rfl)) _
        · rcases hf2 g hg with e | e
          · exact .inl e
          · exact .inr (Nat.le_trans HK4.out.size (by omega))
      rw [show (out ++ [s]).length = out.length + 1 by simp] at hR
      have HR := Lib.hid hR
      clear ho hk2 hf2 hBx hR HO4 HA4 HA HBx b3 bl bz ka HK4
      go_wp2_with fail
      go_end0
      exact ⟨rfl, _, HR.out⟩
    · have hlz : ¬ (out.length : Int) < 4096 := by omega
      have hg : glEnd d at' out s = out := by unfold glEnd; rw [if_neg (fun h => hl h.2.2)]
      rw [hg]
      clear hg h ht hlt hsl
      go_enter Tryd.func34, Tryd.ntmps34
      go_wp2_with (go_at_call 55; go_loud (refine HT.out.mono ?_); rintro e w4 ⟨rfl, hk4⟩; have b3 := (HA.out.box.on hk4).cell 3 _ rfl; have bl := (HA.out.box.on hk4).lt; have bz := (HA.out.box.on hk4).fz)
      go_end0
      exact ⟨rfl, _, HA.out.refl.on hk4⟩
  · rw [decide_eq_false ht] at HT
    have hg : glEnd d at' out s = out := by unfold glEnd; rw [if_neg (fun h => ht h.2.1)]
    rw [hg]
    clear h hg ht
    go_enter Tryd.func34, Tryd.ntmps34
    go_wp2_with (go_at_call 55; go_loud (refine HT.out.mono ?_); rintro e w4 ⟨rfl, hk4⟩)
    go_end0
    exact ⟨rfl, v, HA.out.refl.on hk4⟩

theorem found_cons {fl : List (List Pc)} {p : Option Addr} {c : Nat} {X : List ByteArray} (hn : 0 < fl.length) (hn2 : fl.length ≤ c) (hc : c ≤ maxLen) (s : ByteArray) (hs : s.size ≤ 4000000000)
    (hL : Calls Tryd.prog 19 #[.pointer (some ⟨G, 0, none⟩), .string (s ++ ⟨#[47]⟩), .slice p fl.length c] w (GlTo w v F a d room calls fail G at' mask X)) :
    Calls Tryd.prog 34 #[.pointer (some ⟨G, 0, none⟩), .string s, .slice p fl.length c] w (GlTo w v F a d room calls fail G at' mask X) := by
  have HL := Lib.hid hL
  unfold maxLen at hc
  have hz : (0 : Int) < (fl.length : Int) := by omega
  generalize fl.length = n at *
  clear hL
  go_enter Tryd.func34, Tryd.ntmps34
  go_wp2_with (go_at_call 19; go_loud (refine HL.out.mono ?_); rintro e w4 ⟨rfl, hk4⟩)
  go_end0
  exact ⟨rfl, hk4⟩
end

end Go.Proofs.YtfomkkoecelakaaDoor

/-
  Layer 21: contracts of package glob: look.
-/
set_option maxRecDepth 100000
set_option maxHeartbeats 8000000
namespace Go.Proofs.YtfomkkoecelakaaDoor
open Go Go.RowKit


section
variable {w w' w2 : World} {F a : Nat} {d d' : Nds} {room calls fail : Int} {G : Nat} {at' mask : Int} {v v' v2 : Value} {out out' out2 : List ByteArray}

theorem GlAt.list (h : GlAt w F a d room calls fail G at' mask v out) (s : ByteArray) (hs : s.size ≤ 4294967280) :
    Calls Tryd.prog 9 #[.pointer (some ⟨F, 0, none⟩), .agg #[.int .i64 at', .int .i64 mask], .string s] w fun e w' =>
      ∃ v, e = .returned (.tuple #[v, .int .i64 (lstE d (thrR d at' s true))]) ∧ Own encEnt 41 (fun g => w.heap.size ≤ g) w' v (if lstE d (thrR d at' s true) = 0 then (nd d (thrR d at' s true).1.node).ents else []) ∧ Keeps NoB w w' := by
  obtain ⟨N, h1, _, _⟩ := h.ex
  exact fsList_any h1 at' mask s hs (nd_ents_len h1.pd.small)
theorem GlAt.inv (h : GlAt w F a d room calls fail G at' mask v out) : DInv d := by obtain ⟨N, h1, _, _⟩ := h.ex; exact h1.pd.inv
theorem GlAt.small (h : GlAt w F a d room calls fail G at' mask v out) : smallD d := by obtain ⟨N, h1, _, _⟩ := h.ex; exact h1.pd.small

theorem GlAt.from2 {w0 : World} (_h : GlAt w0 F a d room calls fail G at' mask v out) (k : Keeps NoB w0 w) (h2 : GlR w v F a d room calls fail G at' mask w' v' out') : GlR w0 v F a d room calls fail G at' mask w' v' out' :=
  ⟨h2.st, k.of_none.trans h2.keeps, fun g hg => (h2.own g hg).elim .inl (fun e => .inr (Nat.le_trans k.size e))⟩
/-- What one name does. -/
def stpF (p : FP) (K : List ByteArray → ByteArray → List ByteArray) (head : ByteArray) (o : List ByteArray) (e : Ent) : List ByteArray := if takes p e.1 = true then K o (head ++ e.1) else o
/-- What List answers. -/
def LsO (w wx : World) (x : Value) (es : List Ent) : Prop := Own encEnt 41 (fun g => w.heap.size ≤ g) wx x es ∧ Keeps NoB w wx
theorem LsO.back {wx : World} {x : Value} {es : List Ent} (h : LsO w.drew wx x es) : LsO w wx x es := ⟨h.1, ((Keeps.refl NoB w).drew).trans h.2⟩
theorem fold_next {f : List ByteArray → Ent → List ByteArray} {es : List Ent} {k : Nat} {e : Ent} (h : es[k]? = some e) (o : List ByteArray) : (es.take (k + 1)).foldl f o = f ((es.take k).foldl f o) e := by
  rw [tk_next h, List.foldl_append]; rfl
theorem hasDot_at {s : ByteArray} (h : 0 < s.size) : ((s[0].toNat : Int) != 46) = !hasDot s := by
  have h1 : s.data.toList.head? = some s[0] := by
    have h0 : 0 < s.data.toList.length := by rw [len_data]; exact h
    rw [List.head?_eq_getElem?, List.getElem?_eq_getElem h0]
    rfl
  unfold hasDot
  rw [h1, bne, u8_dec s[0] 46 46 rfl]
  by_cases e : s[0] = 46
  · rw [e]; rfl
  · rw [decide_eq_false e]
    simp [e]
/-- What found does with fields fl. -/
def FoundC (F a : Nat) (d : Nds) (room calls fail : Int) (G : Nat) (at' mask : Int) (fl : List (List Pc)) (K : List ByteArray → ByteArray → List ByteArray) : Prop :=
  ∀ (w : World) (v : Value) (out : List ByteArray) (s : ByteArray) (p : Option Addr) (c : Nat), GlAt w F a d room calls fail G at' mask v out → FldS (fun g => g ≠ G ∧ v.ownBlock ≠ some g) w p c fl → s.size + fl.length * 1000302 ≤ 4000000000 →
    Calls Tryd.prog 34 #[.pointer (some ⟨G, 0, none⟩), .string s, .slice p fl.length c] w (GlTo w v F a d room calls fail G at' mask (K out s))

theorem glLook_any {fp : List Pc → FP} {f : List Pc} {fl : List (List Pc)} {K : List ByteArray → ByteArray → List ByteArray} {p : Option Addr} {c : Nat} (h : GlAt w F a d room calls fail G at' mask v out)
    (hf : FldS (fun g => g ≠ G ∧ v.ownBlock ≠ some g) w p c (f :: fl)) (hp : PatOk fp f) (hfn : f.length ≤ 1000) (hfz : ∀ p ∈ f, p.1.size ≤ 1000) (head : ByteArray) (hsz : head.size + fl.length * 1000302 + 1000300 ≤ 4000000000)
    (HFo : FoundC F a d room calls fail G at' mask fl K) :
    Calls Tryd.prog 19 #[.pointer (some ⟨G, 0, none⟩), .string head, .slice p (fl.length + 1) c] w (GlTo w v F a d room calls fail G at' mask (lkStep d at' (fp f) ⟨(fiL f).toArray⟩ K out head)) := by
  have HA := Lib.hid h
  have HF := Lib.hid hf
  have HG := Lib.hid HFo
  have hcp := hf.cap
  obtain ⟨hc1, hc2⟩ := hcp
  simp only [List.length_cons] at hc1
  unfold maxLen at hc2
  obtain ⟨vp, vc, rfl, hsl⟩ := h.own.sl
  have hvc := hsl.cap
  have hvm := hsl.max
  unfold maxLen at hvm
  have b3 := h.box.cell 3 _ rfl
  have bl := h.box.lt
  by_cases hl : 4096 ≤ out.length
  · have hlz : (4096 : Int) ≤ (out.length : Int) := by omega
    have hg : lkStep d at' (fp f) ⟨(fiL f).toArray⟩ K out head = out := by unfold lkStep; rw [if_pos hl]
    rw [hg]
    clear h hf HFo hg hsl hp HF HG
    go_enter Tryd.func19, Tryd.ntmps19
    go_wp2_with fail
    go_end0
    exact ⟨rfl, _, HA.out.refl⟩
  have hlz : ¬ (4096 : Int) ≤ (out.length : Int) := by omega
  obtain ⟨X, hX⟩ : ∃ X, lkStep d at' (fp f) ⟨(fiL f).toArray⟩ K out head = X := ⟨_, rfl⟩
  rw [hX]
  have HX : Hid (lkStep d at' (fp f) ⟨(fiL f).toArray⟩ K out head = X) := hX
  obtain ⟨g0, o0, q0, cq0, rfl, hS0, hg0, t0, hfs⟩ := hf.head
  have HC := Lib.hid (hp _ _ _ _ hfs)
  have HT := Lib.hid (fun wx (k : Keeps NoB w wx) => fiText_any (hfs.keepN k) (by omega) (fun p hp => by have := hfz p hp; omega))
  have hsl1 : ∀ wx : World, (Instr.slice 67 (.slice (some ⟨g0, o0, none⟩) (fl.length + 1) c) (some (.int .i64 1)) none none).run Tryd.prog wx = .ok (.slice (subAt 1 (some ⟨g0, o0, none⟩) c 1) fl.length (c - 1)) wx := fun wx => run_slice_l (P := Tryd.prog) 67 39 1 Tryd.underlying67 (by kernel_rfl) (some ⟨g0, o0, none⟩) (fl.length + 1) c 1 (by omega) wx (by omega)
  generalize hfpp : fp f = pp at *
  clear h hf HFo hsl hp hX hfs hfpp
  go_enter Tryd.func19, Tryd.ntmps19
  go_upto_region 2 with (go_at_call 32; go_loud (refine HC.out.mono ?_); rintro e w1 ⟨pp0, pn0, pc0, rfl, hpa, hk1⟩)
  have HB := Lib.hid (Bk.new (Keeps.refl NoB (w1.alloc (.cells #[.slice pp0 pn0 pc0] 91))))
  have HP := Lib.hid (fun (Fr : Nat → Prop) (wx : World) (k : Keeps Fr (w1.alloc (.cells #[.slice pp0 pn0 pc0] 91)) wx) (hFr : ∀ g, w.heap.size ≤ g → g < w1.heap.size → ¬ Fr g) => hpa Fr wx ((((Keeps.refl NoB w1).alloc _).of_none).trans k) hFr)
  have HK2 := Lib.hid (hk1.alloc (.cells #[.slice pp0 pn0 pc0] 91))
  have hPB : w.heap.size ≤ w1.heap.size := hk1.size
  clear hpa hk1 HC
  generalize w1.alloc (.cells #[.slice pp0 pn0 pc0] 91) = w2 at *
  generalize w1.heap.size = PB at *
  have c0 := HB.out.cell 0 _ rfl
  have HM := Lib.hid (HP.out NoB w2 (Keeps.refl _ _) (fun _ _ _ h => h)).1
  cases hpm : pp.means with
  | false =>
    rw [hpm] at HM
    have HL : Hid (lkStep d at' pp ⟨(fiL f).toArray⟩ K out head = K out (head ++ ⟨(fiL f).toArray⟩)) := by
      unfold lkStep
      rw [if_neg (by omega), if_pos hpm]
      rfl
    have hE : K out (head ++ ⟨(fiL f).toArray⟩) = X := HL.out.symm.trans HX.out
    clear HL HX hpm
    have hts : (⟨(fiL f).toArray⟩ : ByteArray).size ≤ 1000000 := by
      have h1 := fiL_len f 1000 hfz
      have h2 : f.length * 1000 ≤ 1000 * 1000 := Nat.mul_le_mul_right _ hfn
      show (fiL f).toArray.size ≤ _
      rw [List.size_toArray]; omega
    generalize (⟨(fiL f).toArray⟩ : ByteArray) = tx at *
    have HFd : Hid (∀ wx, Keeps NoB w wx → Calls Tryd.prog 34 #[.pointer (some ⟨G, 0, none⟩), .string (head ++ tx), .slice (subAt 1 (some ⟨g0, o0, none⟩) c 1) fl.length (c - 1)] wx (GlTo w (.slice vp out.length vc) F a d room calls fail G at' mask X)) := by
      refine Lib.hid fun wx k => ?_
      have h1 := HG.out wx _ out (head ++ tx) _ _ (HA.out.on k) ((HF.out.keepS k (fun _ _ _ h => h) (fun _ h _ => h)).tail) (by rw [ByteArray.size_append]; omega)
      rw [hE] at h1
      refine h1.mono ?_
      rintro e wy ⟨he, v', hR⟩
      exact ⟨he, v', HA.out.from2 k hR⟩
    go_upto_region 3 with (go_at_call 33; go_loud (refine HM.out.mono ?_); rintro e w3 ⟨rfl, hk3⟩)
    have HK3 := Lib.hid (HK2.out.trans hk3)
    have t3 := (HK3.out.cell (p := ⟨g0, o0, none⟩) hg0 (fun h => h)).trans t0
    have hcat : (9223372036854775807 < head.size + tx.size) = False := by simp; omega
    clear hk3 c0 HM HB HP HK2 b3
    have T0 := Lib.hid t0
    clear t0
    go_region_with (first
      | (go_at_call 35; go_loud (refine (HT.out _ (HK3.out.trans (by (repeat (first | with_reducible assumption | (with_reducible exact Keeps.refl _ _) | (with_reducible refine Keeps.drew ?_) | (with_reducible refine Keeps.drewN ?_ _) | (with_reducible refine Keeps.alloc ?_ _)))))).mono ?_); rintro e w4 ⟨rfl, hk4⟩; have HK4 := Lib.hid (HK3.out.trans (Keeps.trans (by (repeat (first | with_reducible assumption | (with_reducible exact Keeps.refl _ _) | (with_reducible refine Keeps.drew ?_) | (with_reducible refine Keeps.drewN ?_ _) | (with_reducible refine Keeps.alloc ?_ _)))) hk4)); have t4 := (HK4.out.cell (p := ⟨g0, o0, none⟩) hg0 (fun h => h)).trans T0.out)
      | (go_at_call 34; go_loud (refine (HFd.out _ (by first | exact HK4.out | exact HK4.out.drew)).mono ?_); rintro e w5 ⟨rfl, hR5⟩))
    all_goals
      go_wp2_with fail
      go_end0
      exact ⟨rfl, hR5⟩
  | true =>
    rw [hpm] at HM
    obtain ⟨dir, hdir⟩ : ∃ dir, (if head.size = 0 then (⟨#[46]⟩ : ByteArray) else head) = dir := ⟨_, rfl⟩
    obtain ⟨le, hle⟩ : ∃ le, lstE d (thrR d at' dir true) = le := ⟨_, rfl⟩
    obtain ⟨pn, hpn⟩ : ∃ pn, (thrR d at' dir true).1.node = pn := ⟨_, rfl⟩
    have HL : Hid (X = if le ≠ 0 then out else (nd d pn).ents.foldl (stpF pp K head) out) := by
      rw [← HX.out]
      unfold lkStep
      rw [if_neg (by omega), if_neg (by rw [hpm]; simp), hdir, hle, hpn]
      rfl
    have hdz : dir.size ≤ 4294967280 := by
      rw [← hdir]
      split
      · decide
      · omega
    have HLs : Hid (∀ wx, Keeps NoB w wx → Calls Tryd.prog 9 #[.pointer (some ⟨F, 0, none⟩), .agg #[.int .i64 at', .int .i64 mask], .string dir] wx fun e w' => ∃ v, e = .returned (.tuple #[v, .int .i64 le]) ∧ LsO wx w' v (if le = 0 then (nd d pn).ents else [])) := by
      refine Lib.hid fun wx k => ?_
      have h1 := (HA.out.on k).list dir hdz
      rw [hle, hpn] at h1
      refine h1.mono ?_
      rintro e w' ⟨v, rfl, h2, h3⟩
      exact ⟨v, rfl, ⟨h2, h3⟩⟩
    have HNm := Lib.hid (fun e (he : e ∈ (nd d pn).ents) => (HA.out.inv.node pn).names e he)
    have hel := nd_ents_len HA.out.small pn
    have b0 := HA.out.box.cell 0 _ rfl
    clear HX hpm hle hpn hdz
    generalize (nd d pn).ents = es at *
    have hz2 : head.size = 0 ∨ head.size ≠ 0 := by omega
    have hes : ∃ b, head.toList.isEmpty = b := ⟨_, rfl⟩
    rcases hz2 with hz | hz
    case' inl =>
      have he : head.toList.isEmpty = true := by rw [emp_d]; simp [hz]
      rw [if_pos hz] at hdir
    case' inr =>
      have he : head.toList.isEmpty = false := by rw [emp_d]; simp [hz]
      rw [if_neg hz] at hdir
    all_goals
      subst hdir
      go_upto_region 7 with (go_at_call 33; go_loud (refine HM.out.mono ?_); rintro e w3 ⟨rfl, hk3⟩)
      have HK3 := Lib.hid (HK2.out.trans hk3)
      have HB3 := Lib.hid (HB.out.on hk3)
      have HP3 := Lib.hid (fun (Fr : Nat → Prop) (wx : World) (k : Keeps Fr w3 wx) (hFr : ∀ g, w.heap.size ≤ g → g < PB → ¬ Fr g) => HP.out Fr wx (hk3.of_none.trans k) hFr)
      have hPB3 : PB < w3.heap.size := HB3.out.lt
      clear hk3 c0 HM HB HP HK2 b3 b0 t0 HT hes
      go_cut [8, 9] from 39 to 50 (fun x y wx => y = .int .i64 le ∧ LsO w3 wx x (if le = 0 then es else []))
      case first =>
        have kd : Keeps NoB w w3.drew := HK3.out.drew
        have d0 := (HA.out.box.on kd).cell 0 _ rfl
        have d1 := (HA.out.box.on kd).cell 1 _ rfl
        have d2 := (HA.out.box.on kd).cell 2 _ rfl
        go_region_held3 (fun wz => wz.cell? ⟨G, 0, none⟩ = some (.pointer (some ⟨F, 0, none⟩)) ∧ wz.cell? ⟨G, 1, none⟩ = some (.int .i64 at') ∧ wz.cell? ⟨G, 2, none⟩ = some (.int .i64 mask) ∧ Keeps NoB w wz) (refine ⟨?_, ?_, ?_, ?_⟩ <;> first | with_reducible assumption | (with_reducible refine (HA.out.box.on ?_).cell 0 _ rfl; (repeat (first | with_reducible assumption | (with_reducible exact Keeps.refl _ _) | (with_reducible refine Keeps.drew ?_) | (with_reducible refine Keeps.drewN ?_ _) | (with_reducible refine Keeps.alloc ?_ _))); done) | (with_reducible refine (HA.out.box.on ?_).cell 1 _ rfl; (repeat (first | with_reducible assumption | (with_reducible exact Keeps.refl _ _) | (with_reducible refine Keeps.drew ?_) | (with_reducible refine Keeps.drewN ?_ _) | (with_reducible refine Keeps.alloc ?_ _))); done) | (with_reducible refine (HA.out.box.on ?_).cell 2 _ rfl; (repeat (first | with_reducible assumption | (with_reducible exact Keeps.refl _ _) | (with_reducible refine Keeps.drew ?_) | (with_reducible refine Keeps.drewN ?_ _) | (with_reducible refine Keeps.alloc ?_ _))); done) | ((repeat (first | with_reducible assumption | (with_reducible exact Keeps.refl _ _) | (with_reducible refine Keeps.drew ?_) | (with_reducible refine Keeps.drewN ?_ _) | (with_reducible refine Keeps.alloc ?_ _))); done))
          (first | (go_at_call 9; refine (HLs.out _ (by (repeat (first | with_reducible assumption | (with_reducible exact Keeps.refl _ _) | (with_reducible refine Keeps.drew ?_) | (with_reducible refine Keeps.drewN ?_ _) | (with_reducible refine Keeps.alloc ?_ _))))).mono ?_; rintro e w4 ⟨v4, rfl, hls⟩; have zky : Keeps NoB w w4 := kd.trans hls.2; have z0 := (HA.out.box.on zky).cell 0 _ rfl; have z1 := (HA.out.box.on zky).cell 1 _ rfl; have z2 := (HA.out.box.on zky).cell 2 _ rfl))
        all_goals (go_wp2_with fail; go_meet; exact ⟨rfl, hls.back⟩)
      case rest =>
        obtain ⟨rfl, hown, hkx⟩ := hcut
        by_cases hle : le = 0
        case neg =>
          have hb : (le != 0) = true := by simpa using hle
          have HX : Hid (X = out) := Lib.hid (by rw [HL.out, if_pos hle])
          rw [if_neg hle] at hown
          obtain ⟨ep, ec, rfl, _⟩ := hown.sl
          have HR2 := Lib.hid (HA.out.from2 (HK3.out.trans hkx) ((HA.out.on (HK3.out.trans hkx)).refl))
          clear hle HL hown
          go_wp2_with fail
          refine bodyPost_ret (results_none rfl _ _ _) rfl ?_
          exact ⟨rfl, _, by rw [HX.out]; exact HR2.out⟩
        case pos =>
          subst hle
          rw [if_pos rfl] at hown
          have HX : Hid ((es.foldl (stpF pp K head) out) = X) := Lib.hid (by rw [HL.out, if_neg (by simp)])
          obtain ⟨ep, ec, rfl, hse⟩ := hown.sl
          have hvb : ∀ g, (g = G ∨ (Value.slice vp out.length vc).ownBlock = some g) → g < w.heap.size := fun g hg => hg.elim (fun e => by rw [e]; exact bl) (fun e => HA.out.own.lt g e)
          have HVb := Lib.hid hvb
          have h3s := HK3.out.size
          have HE := Lib.hid (hse.keepS (Keeps.refl NoB wc) (fun _ _ _ h => h) (S' := fun g => w3.heap.size ≤ g ∧ g < wc.heap.size) (fun g hg hl => ⟨hg, hl⟩))
          have HKc := Lib.hid (HK3.out.trans hkx)
          have HR0 := Lib.hid ((HA.out.on HKc.out).refl)
          have HFc := Lib.hid ((HF.out.keepS HKc.out (fun _ _ _ h => h) (fun _ h _ => h)).tail)
          have HBc := Lib.hid (HB3.out.on hkx)
          have HPc := Lib.hid (fun (Fr : Nat → Prop) (wx : World) (k : Keeps Fr wc wx) (hFr : ∀ g, w.heap.size ≤ g → g < PB → ¬ Fr g) => HP3.out Fr wx (hkx.of_none.trans k) hFr)
          have hec := hse.cap
          have hem := hse.max
          unfold maxLen at hem
          clear HL hown hse hvb hkx HB3 HP3 HF
          generalize subAt 1 (some ⟨g0, o0, none⟩) c 1 = tp at *
          go_wp2_with fail
          go_loopw [55] (fun i wr => ∃ (k : Nat) (vk : Value), k ≤ es.length ∧ i = .int .i64 k ∧ GlR wc (.slice vp out.length vc) F a d room calls fail G at' mask wr vk ((es.take k).foldl (stpF pp K head) out)) (fun i _ => es.length + 1 - (intOf i).toNat)
          case atStart => exact ⟨0, _, Nat.zero_le _, rfl, HR0.out⟩
          case round =>
            obtain ⟨k, vk, hk, rfl, hR⟩ := hrel
            have HR := Lib.hid hR
            clear hR HR0
            by_cases hlt : k < es.length
            case neg =>
              obtain rfl : k = es.length := by omega
              have hiz : ¬ (es.length : Int) < (es.length : Int) := by omega
              have HR2 := Lib.hid (HA.out.from2 HKc.out HR.out)
              rw [List.take_length, HX.out] at HR2
              clear HX HR HNm
              go_wp2_with fail
              go_end0
              exact ⟨rfl, _, HR2.out⟩
            case pos =>
              have hiz : (k : Int) < (es.length : Int) := by omega
              obtain ⟨x, hx⟩ : ∃ x, es[k]? = some x := ⟨_, List.getElem?_eq_getElem hlt⟩
              have hnk := HNm.out x (List.mem_of_getElem? hx)
              obtain ⟨g4, o4, rfl, _, _, t1, t2⟩ := (HE.out.keep HR.out.keeps (fun g hg _ hf => by have := HVb.out g hf; omega)).ent hx
              have HN := Lib.hid (fold_next (f := stpF pp K head) hx out)
              obtain ⟨nm, nn⟩ := x
              simp only at t1 t2 hnk HN
              have hnz : nm.size ≤ 255 := (okName_parts hnk).2.2.2.1
              have hpos : 0 < nm.size := by
                unfold okName at hnk
                simp only [Bool.and_eq_true, decide_eq_true_eq] at hnk
                omega
              generalize hfo : (es.take k).foldl (stpF pp K head) out = ok at *
              clear hfo hnk hx
              go_upto_region 12 with fail
              have HBx := Lib.hid (Bk.new (Keeps.refl NoB (wr.alloc (.cells #[.string nm, .int .i64 nn] 41))))
              have HRx := Lib.hid (HR.out.on ((Keeps.refl NoB wr).alloc (.cells #[.string nm, .int .i64 nn] 41)))
              clear t1 t2 HR
              generalize wr.alloc (.cells #[.string nm, .int .i64 nn] 41) = wx at *
              generalize wr.heap.size = XB at *
              have HDt := Lib.hid (fun (wz : World) (k : Keeps NoB wx wz) => (HPc.out _ wz (HRx.out.keeps.trans k.of_none) (fun g h1 _ hf => by have := HVb.out g hf; omega)).2.1)
              have HMt := Lib.hid (fun (wz : World) (k : Keeps NoB wx wz) => (HPc.out _ wz (HRx.out.keeps.trans k.of_none) (fun g h1 _ hf => by have := HVb.out g hf; omega)).2.2 nm (by omega))
              have HPx := Lib.hid (HBc.out.keep HRx.out.keeps (fun hf => by have := HVb.out _ hf; omega))
              have x0 := HBx.out.cell 0 _ rfl
              have p0 := HPx.out.cell 0 _ rfl
              have hdt := hasDot_at hpos
              obtain ⟨ch, hch⟩ : ∃ ch, nm[0]'hpos = ch := ⟨_, rfl⟩
              rw [hch] at hdt
              cases hd : hasDot nm with
              | false =>
                rw [hd] at hdt
                simp only [Bool.not_false] at hdt
                cases hm : pp.mt nm with
                | true =>
                  rw [hm] at HMt
                  have HS : Hid (stpF pp K head ok (nm, nn) = K ok (head ++ nm)) := Lib.hid (by unfold stpF takes; rw [if_pos]; simp [hm, hd])
                  rw [HS.out] at HN
                  have hcat : (9223372036854775807 < head.size + nm.size) = False := by simp; omega
                  have HFw : Hid (∀ wz, Keeps NoB wx wz → Calls Tryd.prog 34 #[.pointer (some ⟨G, 0, none⟩), .string (head ++ nm), .slice tp fl.length (c - 1)] wz (GlTo wx vk F a d room calls fail G at' mask (K ok (head ++ nm)))) := by
                    refine Lib.hid fun wz k => ?_
                    have h1 := HG.out wz vk ok (head ++ nm) tp (c - 1) (HRx.out.st.on k) (HFc.out.keepS (HRx.out.keeps.trans k.of_none) (fun g hg _ hf => hf.elim hg.1 hg.2) (fun g hg hl => ⟨hg.1, fun e => (HRx.out.own g e).elim hg.2 (fun h => by omega)⟩)) (by rw [ByteArray.size_append]; omega)
                    refine h1.mono ?_
                    rintro e wy ⟨he, v', hR⟩
                    exact ⟨he, v', HRx.out.st.from2 k hR⟩
                  clear hm hd HS HPc HG HFc
                  go_upto_region 13 with (first | (go_at_call 37; go_loud (refine (HMt.out _ (by (repeat (first | with_reducible assumption | (with_reducible exact Keeps.refl _ _) | (with_reducible refine Keeps.drew ?_) | (with_reducible refine Keeps.drewN ?_ _) | (with_reducible refine Keeps.alloc ?_ _))))).mono ?_); rintro e w5 ⟨rfl, hk5⟩; have HK5 := Lib.hid (Keeps.trans (by (repeat (first | with_reducible assumption | (with_reducible exact Keeps.refl _ _) | (with_reducible refine Keeps.drew ?_) | (with_reducible refine Keeps.drewN ?_ _) | (with_reducible refine Keeps.alloc ?_ _)))) hk5)) )
                  have x5 := (HBx.out.on HK5.out).cell 0 _ rfl
                  clear x0 p0 hk5 HDt HMt
                  go_region_with (go_at_call 34; go_loud (refine (HFw.out _ (by first | exact HK5.out | exact HK5.out.drew | exact HK5.out.drew.drew)).mono ?_); rintro e w6 ⟨rfl, v6, hR6⟩)
                  all_goals
                    go_wp2_with fail
                    go_roundw
                    case rel => exact ⟨k + 1, v6, by omega, by go_num, by rw [HN.out]; exact HRx.out.trans hR6⟩
                    case measure => simp [intOf]; omega
                | false =>
                  rw [hm] at HMt
                  have HS : Hid (stpF pp K head ok (nm, nn) = ok) := Lib.hid (by unfold stpF takes; rw [if_neg]; simp [hm])
                  rw [HS.out] at HN
                  clear hm hd HS
                  go_wp2_with (go_at_call 37; go_loud (refine (HMt.out _ (by (repeat (first | with_reducible assumption | (with_reducible exact Keeps.refl _ _) | (with_reducible refine Keeps.drew ?_) | (with_reducible refine Keeps.drewN ?_ _) | (with_reducible refine Keeps.alloc ?_ _))))).mono ?_); rintro e w5 ⟨rfl, hk5⟩)
                  go_roundw
                  case rel => exact ⟨k + 1, vk, by omega, by go_num, by rw [HN.out]; exact HRx.out.on hk5⟩
                  case measure => simp [intOf]; omega
              | true =>
                rw [hd] at hdt
                simp only [Bool.not_true] at hdt
                cases hpd : pp.dot with
                | false =>
                  rw [hpd] at HDt
                  have HS : Hid (stpF pp K head ok (nm, nn) = ok) := Lib.hid (by unfold stpF takes; rw [if_neg]; simp [hd, hpd])
                  rw [HS.out] at HN
                  clear hpd hd HS
                  go_wp2_with (go_at_call 36; go_loud (refine (HDt.out _ (by (repeat (first | with_reducible assumption | (with_reducible exact Keeps.refl _ _) | (with_reducible refine Keeps.drew ?_) | (with_reducible refine Keeps.drewN ?_ _) | (with_reducible refine Keeps.alloc ?_ _))))).mono ?_); rintro e w5 ⟨rfl, hk5⟩)
                  go_roundw
                  case rel => exact ⟨k + 1, vk, by omega, by go_num, by rw [HN.out]; exact HRx.out.on hk5⟩
                  case measure => simp [intOf]; omega
                | true =>
                  rw [hpd] at HDt
                  cases hm : pp.mt nm with
                  | false =>
                    rw [hm] at HMt
                    have HS : Hid (stpF pp K head ok (nm, nn) = ok) := Lib.hid (by unfold stpF takes; rw [if_neg]; simp [hm])
                    rw [HS.out] at HN
                    clear hm hd HS hpd
                    go_wp2_with (first | (go_at_call 37; go_loud (refine (HMt.out _ (by (repeat (first | with_reducible assumption | (with_reducible exact Keeps.refl _ _) | (with_reducible refine Keeps.drew ?_) | (with_reducible refine Keeps.drewN ?_ _) | (with_reducible refine Keeps.alloc ?_ _))))).mono ?_); rintro e w5 ⟨rfl, hk5⟩) | (go_at_call 36; go_loud (refine (HDt.out _ (by (repeat (first | with_reducible assumption | (with_reducible exact Keeps.refl _ _) | (with_reducible refine Keeps.drew ?_) | (with_reducible refine Keeps.drewN ?_ _) | (with_reducible refine Keeps.alloc ?_ _))))).mono ?_); rintro e w4 ⟨rfl, hk4⟩; have p4 := (HPx.out.on hk4).cell 0 _ rfl; have x4 := (HBx.out.on hk4).cell 0 _ rfl))
                    go_roundw
                    case rel => exact ⟨k + 1, vk, by omega, by go_num, by rw [HN.out]; exact (HRx.out.on hk4).on hk5⟩
                    case measure => simp [intOf]; omega
                  | true =>
                    rw [hm] at HMt
                    have HS : Hid (stpF pp K head ok (nm, nn) = K ok (head ++ nm)) := Lib.hid (by unfold stpF takes; rw [if_pos]; simp [hm, hd, hpd])
                    rw [HS.out] at HN
                    have hcat : (9223372036854775807 < head.size + nm.size) = False := by simp; omega
                    have HFw : Hid (∀ wz, Keeps NoB wx wz → Calls Tryd.prog 34 #[.pointer (some ⟨G, 0, none⟩), .string (head ++ nm), .slice tp fl.length (c - 1)] wz (GlTo wx vk F a d room calls fail G at' mask (K ok (head ++ nm)))) := by
                      refine Lib.hid fun wz k => ?_
                      have h1 := HG.out wz vk ok (head ++ nm) tp (c - 1) (HRx.out.st.on k) (HFc.out.keepS (HRx.out.keeps.trans k.of_none) (fun g hg _ hf => hf.elim hg.1 hg.2) (fun g hg hl => ⟨hg.1, fun e => (HRx.out.own g e).elim hg.2 (fun h => by omega)⟩)) (by rw [ByteArray.size_append]; omega)
                      refine h1.mono ?_
                      rintro e wy ⟨he, v', hR⟩
                      exact ⟨he, v', HRx.out.st.from2 k hR⟩
                    clear hpd hm hd HS HPc HG HFc
                    go_upto_region 13 with (first | (go_at_call 37; go_loud (refine (HMt.out _ (by (repeat (first | with_reducible assumption | (with_reducible exact Keeps.refl _ _) | (with_reducible refine Keeps.drew ?_) | (with_reducible refine Keeps.drewN ?_ _) | (with_reducible refine Keeps.alloc ?_ _))))).mono ?_); rintro e w5 ⟨rfl, hk5⟩; have HK5 := Lib.hid (Keeps.trans (by (repeat (first | with_reducible assumption | (with_reducible exact Keeps.refl _ _) | (with_reducible refine Keeps.drew ?_) | (with_reducible refine Keeps.drewN ?_ _) | (with_reducible refine Keeps.alloc ?_ _)))) hk5)) | (go_at_call 36; go_loud (refine (HDt.out _ (by (repeat (first | with_reducible assumption | (with_reducible exact Keeps.refl _ _) | (with_reducible refine Keeps.drew ?_) | (with_reducible refine Keeps.drewN ?_ _) | (with_reducible refine Keeps.alloc ?_ _))))).mono ?_); rintro e w4 ⟨rfl, hk4⟩; have p4 := (HPx.out.on hk4).cell 0 _ rfl; have x4 := (HBx.out.on hk4).cell 0 _ rfl))
                    have x5 := (HBx.out.on HK5.out).cell 0 _ rfl
                    clear x0 p0 hk5 HDt HMt
                    go_region_with (go_at_call 34; go_loud (refine (HFw.out _ (by first | exact HK5.out | exact HK5.out.drew | exact HK5.out.drew.drew)).mono ?_); rintro e w6 ⟨rfl, v6, hR6⟩)
                    all_goals
                      go_wp2_with fail
                      go_roundw
                      case rel => exact ⟨k + 1, v6, by omega, by go_num, by rw [HN.out]; exact HRx.out.trans hR6⟩
                      case measure => simp [intOf]; omega

end

end Go.Proofs.YtfomkkoecelakaaDoor
