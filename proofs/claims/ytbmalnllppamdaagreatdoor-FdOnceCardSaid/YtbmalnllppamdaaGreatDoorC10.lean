/-
  Layer 7: tables of numbers in memory: files, what is open, pipes.
-/
import Derived.Test.YtbmalnllppamdaaGreatDoorC09
import Derived.Test.YtbmalnllppamdaaGreatDoorC05
import Derived.Test.YtbmalnllppamdaaGreatDoorC01
import Derived.Test.YtbmalnllppamdaaGreatDoorB02
import Derived.Test.YtbmalnllppamdaaGreatDoorC06

set_option linter.unusedSimpArgs false
set_option linter.unusedVariables false

set_option maxRecDepth 100000
set_option maxHeartbeats 1000000
namespace Go.Proofs.YtbmalnllppamdaaGreatDoor
open Go Go.RowKit

/-- Whose a block is: nobody's here, a table's, something open's, a pipe's. -/
inductive Tg where
  | no
  | tab (T : Nat)
  | opn (b : Nat)
  | pip (q : Nat)

/-- Something open. -/
structure Opn where
  pipe : Option Nat
  id : Int
  at' : Int
  flags : Int
  uses : Int

/-- All that is open: whose each block is, the tables' maps, their numbers, what is open, the pipes' bytes and how many have been read. -/
structure FdZ where
  tg : Nat → Tg
  tm : Nat → Option Nat
  kv : Nat → List (Int × Nat)
  op : Nat → Option Opn
  pb : Nat → ByteArray
  pa : Nat → Nat

def kvV (l : List (Int × Nat)) : Kv := l.map fun x => (x.1, .pointer (some ⟨x.2, 0, none⟩))
def kvG (l : List (Int × Nat)) (n : Int) : Option Nat := (l.find? fun x => decide (x.1 = n)).map (·.2)
def kvD (l : List (Int × Nat)) (n : Int) : List (Int × Nat) := l.filter fun x => !decide (x.1 = n)
def pipV : Option Nat → Value
  | none => .pointer none
  | some q => .pointer (some ⟨q, 0, none⟩)
def Opn.cells (o : Opn) : List Value := [pipV o.pipe, .int .i64 o.id, .int .i64 o.at', .int .i64 o.flags, .int .i64 o.uses]

theorem kvGet_kvV (l : List (Int × Nat)) (n : Int) : kvGet (kvV l) n = (kvG l n).map fun b => .pointer (some ⟨b, 0, none⟩) := by
  unfold kvGet kvV kvG
  induction l with
  | nil => rfl
  | cons x l ih =>
    simp only [List.map_cons, List.find?_cons]
    by_cases hx : x.1 = n
    · simp [hx]
    · simp only [hx, decide_false]; exact ih
theorem kvDel_kvV (l : List (Int × Nat)) (n : Int) : kvDel (kvV l) n = kvV (kvD l n) := by
  unfold kvDel kvV kvD
  induction l with
  | nil => rfl
  | cons x l ih =>
    simp only [List.map_cons, List.filter_cons]
    by_cases hx : x.1 = n
    · simp [hx, ih]
    · simp [hx, ih]
theorem kvG_kvD (l : List (Int × Nat)) (n : Int) : kvG (kvD l n) n = none := by
  unfold kvG kvD
  rw [Option.map_eq_none_iff, List.find?_eq_none]
  intro x hx
  have := (List.mem_filter.1 hx).2
  simpa using this
theorem kvG_mem {l : List (Int × Nat)} {n : Int} {b : Nat} (h : kvG l n = some b) : (n, b) ∈ l := by
  unfold kvG at h
  obtain ⟨x, hx, rfl⟩ := Option.map_eq_some_iff.1 h
  have h1 := List.find?_some hx
  have h2 := List.mem_of_find?_eq_some hx
  simp only [decide_eq_true_eq] at h1
  rw [← h1]
  exact h2

/-- A table in memory. -/
structure TabAt (w : World) (F T M : Nat) (l : List (Int × Nat)) : Prop where
  bx : Bx w T [.pointer (some ⟨F, 0, none⟩), .map (some M)]
  map : IMap w M (kvV l)
  ne : T ≠ M

/-- Files and what is open lie in memory, and touch none of the blocks N. -/
structure FdS (N : Nat → Prop) (Z : FdZ) (w : World) (F a : Nat) (d : Nds) (room calls fail : Int) : Prop where
  fs : FSt (fun g => N g ∨ Z.tg g ≠ .no) w F a d room calls fail
  out : ∀ g, N g → Z.tg g = .no
  tab : ∀ T M, Z.tm T = some M → TabAt w F T M (Z.kv T) ∧ Z.tg T = .tab T ∧ Z.tg M = .tab T
  opn : ∀ b o, Z.op b = some o → Bx w b o.cells ∧ Z.tg b = .opn b
  kvs : ∀ T n b, (n, b) ∈ Z.kv T → ∃ o, Z.op b = some o
  pip : ∀ b o q, Z.op b = some o → o.pipe = some q → PipeAt (fun g => Z.tg g = .pip q) w q (Z.pb q) (Z.pa q)

section
variable {N : Nat → Prop} {Z : FdZ} {w w' : World} {F a : Nat} {d d' : Nds} {room calls calls' fail : Int}

theorem FdS.low (h : FdS N Z w F a d room calls fail) (g : Nat) (hg : Z.tg g ≠ .no) : g < w.heap.size := h.fs.low g (.inr hg)

/-- What is not theirs has turned. -/
theorem FdS.keep {G : Nat → Prop} (h : FdS N Z w F a d room calls fail) (k : Keeps G w w') (hG : ∀ g, G g → N g) : FdS N Z w' F a d room calls fail := by
  have hn : ∀ g, G g → Z.tg g = .no := fun g hg => h.out g (hG g hg)
  refine ⟨h.fs.keep k (fun g hg => .inl (hG g hg)), h.out, fun T M hT => ?_, fun b o hb => ?_, h.kvs, fun b o q hb hq => (h.pip b o q hb hq).keep k (fun g hg hx => by rw [hn g hx] at hg; cases hg)⟩
  · obtain ⟨h1, h2, h3⟩ := h.tab T M hT
    exact ⟨⟨h1.bx.keep k (fun hx => by rw [hn _ hx] at h2; cases h2), h1.map.keep k (fun hx => by rw [hn _ hx] at h3; cases h3), h1.ne⟩, h2, h3⟩
  · obtain ⟨h1, h2⟩ := h.opn b o hb
    exact ⟨h1.keep k (fun hx => by rw [hn _ hx] at h2; cases h2), h2⟩
theorem FdS.on (h : FdS N Z w F a d room calls fail) (k : Keeps NoB w w') : FdS N Z w' F a d room calls fail := h.keep k (fun _ hg => hg.elim)
theorem FdS.less {N' : Nat → Prop} (h : FdS N Z w F a d room calls fail) (hN : ∀ g, N' g → N g) : FdS N' Z w F a d room calls fail :=
  ⟨h.fs.less (fun g hg => hg.imp (hN g) id), fun g hg => h.out g (hN g hg), h.tab, h.opn, h.kvs, h.pip⟩

/-- New blocks are nobody's here. -/
theorem FdS.top (h : FdS N Z w F a d room calls fail) (g : Nat) (hg : w.heap.size ≤ g) : Z.tg g = .no := by
  cases e : Z.tg g with
  | no => rfl
  | _ => exact absurd (h.low g (by rw [e]; intro x; cases x)) (by omega)
theorem FdS.wider (h : FdS N Z w F a d room calls fail) (k : Keeps NoB w w') : ∃ N1 : Nat → Prop, (∀ g, N g → N1 g) ∧ (∀ g, w.heap.size ≤ g → g < w'.heap.size → N1 g) ∧ FdS N1 Z w' F a d room calls fail := by
  have h1 := h.on k
  obtain ⟨N1, g1, g2, g3⟩ := h.fs.wider k
  refine ⟨fun g => N g ∨ (w.heap.size ≤ g ∧ g < w'.heap.size), fun g hg => .inl hg, fun g h1 h2 => .inr ⟨h1, h2⟩, g3.less (fun g hg => ?_), fun g hg => ?_, h1.tab, h1.opn, h1.kvs, h1.pip⟩
  · rcases hg with (hg | hg) | hg
    · exact g1 g (.inl hg)
    · exact g2 g hg.1 hg.2
    · exact g1 g (.inr hg)
  · rcases hg with hg | hg
    · exact h.out g hg
    · exact h.top g hg.1

/-- What a call leaves. -/
def FdTo (N : Nat → Prop) (Z' : FdZ) (w : World) (F a : Nat) (d' : Nds) (room calls' fail : Int) (E : Ending) : Ending → World → Prop := fun e w' =>
  e = E ∧ FdS N Z' w' F a d' room calls' fail ∧ Keeps (fun g => ¬ N g) w w'

/-- A call of files. -/
theorem FdS.files {f : Nat} {args : Array Value} {V : Value} (h : FdS N Z w F a d room calls fail) (hc : ∀ N : Nat → Prop, FSt N w F a d room calls fail → Calls Tryz.prog f args w (FTo N w F a d' room calls' fail V)) :
    Calls Tryz.prog f args w (FdTo N Z w F a d' room calls' fail (.returned V)) := by
  refine (hc _ h.fs).mono ?_
  rintro e w' ⟨rfl, h1, k⟩
  have hn : ∀ g, Z.tg g ≠ .no → ¬ ¬ (N g ∨ Z.tg g ≠ .no) := fun g hg hx => hx (.inr hg)
  refine ⟨rfl, ⟨h1, h.out, fun T M hT => ?_, fun b o hb => ?_, h.kvs, fun b o q hb hq => (h.pip b o q hb hq).keep k (fun g hg => hn g (by rw [hg]; intro x; cases x))⟩, k.mono (fun g _ hg hN => hg (.inl hN))⟩
  · obtain ⟨h1, h2, h3⟩ := h.tab T M hT
    exact ⟨⟨h1.bx.keep k (hn _ (by rw [h2]; intro x; cases x)), h1.map.keep k (hn _ (by rw [h3]; intro x; cases x)), h1.ne⟩, h2, h3⟩
  · obtain ⟨h1, h2⟩ := h.opn b o hb
    exact ⟨h1.keep k (hn _ (by rw [h2]; intro x; cases x)), h2⟩

end
end Go.Proofs.YtbmalnllppamdaaGreatDoor

/-
  Layer 7: contracts of tables: right, drop, put.
-/
set_option maxRecDepth 100000
set_option maxHeartbeats 4000000
namespace Go.Proofs.YtbmalnllppamdaaGreatDoor
open Go Go.RowKit

def FdZ.setOp (Z : FdZ) (b : Nat) (o : Opn) : FdZ := { Z with op := fun x => if x = b then some o else Z.op x }
def FdZ.setKv (Z : FdZ) (T : Nat) (l : List (Int × Nat)) : FdZ := { Z with kv := fun x => if x = T then l else Z.kv x }
def Opn.use (o : Opn) (k : Int) : Opn := { o with uses := o.uses + k }

/-- What drop leaves. -/
def dropZ (Z : FdZ) (T : Nat) (n : Int) : FdZ :=
  match kvG (Z.kv T) n with
  | none => Z
  | some b => match Z.op b with
    | none => Z
    | some o => (Z.setKv T (kvD (Z.kv T) n)).setOp b (o.use (-1))
noncomputable def dropF (Z : FdZ) (d : Nds) (T : Nat) (n : Int) : Nds :=
  match kvG (Z.kv T) n with
  | none => d
  | some b => match Z.op b with
    | none => d
    | some o => if o.uses + -1 = 0 ∧ o.pipe = none then relD d o.id else d

section
variable {N : Nat → Prop} {Z : FdZ} {w w' : World} {F a : Nat} {d d' : Nds} {room calls calls' fail : Int}

theorem tag_opn {b b' : Nat} (h : Tg.opn b = Tg.opn b') : b = b' := by cases h; rfl
theorem tag_tab {b b' : Nat} (h : Tg.tab b = Tg.tab b') : b = b' := by cases h; rfl

/-- Something open has turned, in one cell. -/
theorem FdS.setOp (h : FdS N Z w F a d room calls fail) {b : Nat} {o o' : Opn} (hb : Z.op b = some o) (j : Nat) (v : Value) (hc : o.cells.set j v = o'.cells) (hp : o'.pipe = o.pipe) :
    FdS N (Z.setOp b o') (w.setCell ⟨b, j, none⟩ v) F a d room calls fail := by
  have k := keeps_set w ⟨b, j, none⟩ v
  obtain ⟨hx, ht⟩ := h.opn b o hb
  have hne : ∀ g, Z.tg g ≠ .opn b → ¬ g = b := fun g hg e => hg (by rw [e]; exact ht)
  refine ⟨h.fs.keep k (fun g hg => .inr (by rw [show g = b from hg, ht]; intro x; cases x)), h.out, fun T M hT => ?_, fun b' o2 hb' => ?_, fun T n b' hm => ?_, fun b' o2 q hb' hq => ?_⟩
  · obtain ⟨h1, h2, h3⟩ := h.tab T M hT
    exact ⟨⟨h1.bx.keep k (hne _ (by rw [h2]; intro x; cases x)), h1.map.keep k (hne _ (by rw [h3]; intro x; cases x)), h1.ne⟩, h2, h3⟩
  · by_cases e : b' = b
    · subst e
      have : o2 = o' := by simpa [FdZ.setOp] using hb'.symm
      subst this
      have := hx.put j v
      rw [hc] at this
      exact ⟨this, ht⟩
    · have hb2 : Z.op b' = some o2 := by simpa [FdZ.setOp, e] using hb'
      obtain ⟨h1, h2⟩ := h.opn b' o2 hb2
      exact ⟨h1.keep k (hne _ (fun x => e (tag_opn (h2.symm.trans x)))), h2⟩
  · obtain ⟨o2, h2⟩ := h.kvs T n b' hm
    by_cases e : b' = b
    · exact ⟨o', by simp [FdZ.setOp, e]⟩
    · exact ⟨o2, by simp [FdZ.setOp, e, h2]⟩
  · have hk : ∀ g, Z.tg g = .pip q → ¬ g = b := fun g hg => hne g (by rw [hg]; intro x; cases x)
    by_cases e : b' = b
    · subst e
      have : o2 = o' := by simpa [FdZ.setOp] using hb'.symm
      subst this
      exact (h.pip b' o q hb (hp ▸ hq)).keep k hk
    · exact (h.pip b' o2 q (by simpa [FdZ.setOp, e] using hb') hq).keep k hk

/-- A table's map has turned. -/
theorem FdS.setKv (h : FdS N Z w F a d room calls fail) {T M : Nat} (hT : Z.tm T = some M) {l : List (Int × Nat)} (hm : IMap w' M (kvV l)) (k : Keeps (fun g => g = M) w w') (hl : ∀ n b, (n, b) ∈ l → ∃ o, Z.op b = some o) :
    FdS N (Z.setKv T l) w' F a d room calls fail := by
  obtain ⟨hx, ht, htm⟩ := h.tab T M hT
  have hne : ∀ g, Z.tg g ≠ .tab T → ¬ g = M := fun g hg e => hg (by rw [e]; exact htm)
  refine ⟨h.fs.keep k (fun g hg => .inr (by rw [show g = M from hg, htm]; intro x; cases x)), h.out, fun T' M' hT' => ?_, fun b o hb => ?_, fun T' n b hb => ?_, fun b o q hb hq => (h.pip b o q hb hq).keep k (fun g hg => hne g (by rw [hg]; intro x; cases x))⟩
  · by_cases e : T' = T
    · subst e
      have : M' = M := by
        have h1 : Z.tm T' = some M' := hT'
        rw [hT] at h1
        exact (Option.some.inj h1).symm
      subst this
      refine ⟨⟨hx.bx.keep k hx.ne, ?_, hx.ne⟩, ht, htm⟩
      simpa [FdZ.setKv] using hm
    · obtain ⟨h1, h2, h3⟩ := h.tab T' M' hT'
      refine ⟨⟨h1.bx.keep k (hne _ (fun x => e (tag_tab (h2.symm.trans x)))), ?_, h1.ne⟩, h2, h3⟩
      have := h1.map.keep k (hne _ (fun x => e (tag_tab (h3.symm.trans x))))
      simpa [FdZ.setKv, e] using this
  · obtain ⟨h1, h2⟩ := h.opn b o hb
    exact ⟨h1.keep k (hne _ (by rw [h2]; intro x; cases x)), h2⟩
  · by_cases e : T' = T
    · exact hl n b (by simpa [FdZ.setKv, e] using hb)
    · exact h.kvs T' n b (by simpa [FdZ.setKv, e] using hb)

theorem fdRight_any (n : Int) (w : World) : Calls Tryz.prog 54 #[.int .i64 n] w fun e w' => e = .returned (.bool (decide (0 ≤ n) && decide (n < 64))) ∧ w = w' := by
  go_enter Tryz.func54, Tryz.ntmps54
  go_wp2
  all_goals
    go_ret
    refine ⟨ret_bool ?_, rfl⟩
    first | (simp [*]; done) | (simp [*]; omega) | (simp [*]; intros; omega)

theorem fdDrop_any (h : FdS N Z w F a d room calls fail) {T M : Nat} (hT : Z.tm T = some M) (n : Int) (hu : ∀ b o, Z.op b = some o → -4611686018427387904 ≤ o.uses ∧ o.uses ≤ 4611686018427387904) :
    Calls Tryz.prog 105 #[.pointer (some ⟨T, 0, none⟩), .int .i64 n] w (FdTo N (dropZ Z T n) w F a (dropF Z d T n) room calls fail (.returned (.tuple #[]))) := by
  obtain ⟨hx, ht, htm⟩ := h.tab T M hT
  have t1 := hx.bx.cell 1 _ rfl
  have hlk := hx.map.lookup (P := Tryz.prog) Tryz.underlying125 Tryz.underlying3 (z := .pointer none) (by kernel_rfl) n
  rw [kvGet_kvV] at hlk
  have H := Lib.hid h
  unfold dropZ dropF
  cases hk : kvG (Z.kv T) n with
  | none =>
    rw [hk] at hlk
    simp only [Option.map_none, Option.getD_none] at hlk ⊢
    clear h hx ht htm hu
    go_enter Tryz.func105, Tryz.ntmps105
    go_wp2
    go_end0
    exact ⟨rfl, H.out, Keeps.refl _ _⟩
  | some b =>
    obtain ⟨o, ho⟩ := h.kvs T n b (kvG_mem hk)
    rw [hk] at hlk
    simp only [Option.map_some, Option.getD_some, ho] at hlk ⊢
    obtain ⟨hbx, hbt⟩ := h.opn b o ho
    obtain ⟨pp, id, at', fl, us⟩ := o
    have hus := hu b _ ho
    simp only at hus
    have hmp := hx.map
    have hkv : ∀ m c, (m, c) ∈ kvD (Z.kv T) n → ∃ o, Z.op c = some o := fun m c hm => h.kvs T m c (List.mem_filter.1 hm).1
    have HKV := Lib.hid hkv
    have HO := Lib.hid ho
    have HT := Lib.hid hT
    have hwr : IntKind.i64.wrap (us - 1) = us + -1 := by rw [IntKind.wrap_i64]; omega
    obtain ⟨dF, hdF⟩ : ∃ dF, (if us + -1 = 0 ∧ pp = none then relD d id else d) = dF := ⟨_, rfl⟩
    obtain ⟨ZF, hZF⟩ : ∃ ZF, (Z.setKv T (kvD (Z.kv T) n)).setOp b ((Opn.mk pp id at' fl us).use (-1)) = ZF := ⟨_, rfl⟩
    rw [hZF]
    simp only [Opn.use]
    rw [hdF]
    have HDF := Lib.hid hdF
    have HZF := Lib.hid hZF
    clear h hx ht htm hbx hbt hu hkv ho hT hk hdF hZF
    go_enter Tryz.func105, Tryz.ntmps105
    go_upto_region 3 with (at_delete; refine wpl_delete rfl (.tmp 16) (.tmp 17) _ _ rfl Tryz.underlying125 Tryz.underlying3 rfl hmp rfl ?_; intro w1 hm1 hk1)
    have H1 := Lib.hid (H.out.setKv HT.out (l := kvD (Z.kv T) n) (by rw [← kvDel_kvV]; exact hm1) hk1 HKV.out)
    have HM1 := Lib.hid (show M ∈ [M] ∧ Z.tg M = .tab T from ⟨by simp, (H.out.tab T M HT.out).2.2⟩)
    have HK := Lib.hid (hk1.mono (G := fun g => ¬ N g) (fun g _ hg hN => by
      have := H.out.out g hN
      rw [show g = M from hg, HM1.out.2] at this
      cases this))
    clear hm1 hk1 t1 hlk hmp
    have hb := (H1.out.opn b _ HO.out).1
    have c4 := hb.cell 4 _ rfl
    have cz := hb.fz
    have cl := hb.lt
    clear hb
    go_upto_region 4 with fail
    have H2 := Lib.hid (H1.out.setOp (o' := (Opn.mk pp id at' fl us).use (-1)) HO.out 4 (.int .i64 (us + -1)) rfl rfl)
    have HK2 := Lib.hid (HK.out.trans ((keeps_set w1 ⟨b, 4, none⟩ (.int .i64 (us + -1))).mono (F := fun g => g = b) (G := fun g => ¬ N g) (fun g _ hg hN => by
      have := H.out.out g hN
      rw [show g = b from hg, (H.out.opn b _ HO.out).2] at this
      cases this)))
    clear c4 cz cl H1 HK
    generalize w1.setCell ⟨b, 4, none⟩ (.int .i64 (us + -1)) = w2 at *
    have hb := (H2.out.opn b ((Opn.mk pp id at' fl us).use (-1)) (by simp [FdZ.setOp])).1
    have c0 := hb.cell 0 _ rfl
    have c1 := hb.cell 1 _ rfl
    have c4 := hb.cell 4 _ rfl
    have t0 := (H2.out.tab T M HT.out).1.bx.cell 0 _ rfl
    rw [HZF.out] at H2
    simp only [Opn.use] at c0 c1 c4
    clear hb
    by_cases hz : us + -1 = 0
    · rw [hz] at c4
      cases pp with
      | some q =>
        unfold pipV at c0
        simp only at c0
        have e9 : d = dF := by rw [← HDF.out, if_neg (fun x => by simp at x)]
        subst e9
        go_wp2_with fail
        go_end0
        exact ⟨rfl, H2.out, HK2.out⟩
      | none =>
        unfold pipV at c0
        simp only at c0
        have e9 : relD d id = dF := by rw [← HDF.out, if_pos ⟨hz, rfl⟩]
        go_upto_region 5 with fail
        have HC := Lib.hid ((H2.out.on (Keeps.refl NoB w2).drew).files fun N hN => close_any hN id)
        go_still_tail 8, (by kernel_rfl)
        change wpList _ _ _ _ _ w2.drew
        replace HK2 : Hid (Keeps (fun g => ¬ N g) w w2.drew) := HK2.out.drew
        clear c0 c1 c4 t0
        generalize w2.drew = w3 at *
        go_wp2_with (go_at_call 150; go_loud (refine HC.out.mono ?_); rintro e w4 ⟨rfl, H4, k4⟩)
        go_end0
        rw [← e9]
        exact ⟨rfl, H4, HK2.out.trans k4⟩
    · have hzb : (us + -1 == 0) = false := by simpa using hz
      have e9 : d = dF := by rw [← HDF.out, if_neg (fun x => hz x.1)]
      subst e9
      clear hz
      go_wp2_with fail
      go_end0
      exact ⟨rfl, H2.out, HK2.out⟩

/-- What put leaves. -/
def useZ (Z : FdZ) (b : Nat) (k : Int) : FdZ := match Z.op b with | none => Z | some o => Z.setOp b (o.use k)
def putZ (Z : FdZ) (T : Nat) (n : Int) (b : Nat) : FdZ := (dropZ (useZ Z b 1) T n).setKv T ((dropZ (useZ Z b 1) T n).kv T ++ [(n, b)])
noncomputable def putF (Z : FdZ) (d : Nds) (T : Nat) (n : Int) (b : Nat) : Nds := dropF (useZ Z b 1) d T n

theorem dropZ_tm (Z : FdZ) (T : Nat) (n : Int) : (dropZ Z T n).tm = Z.tm := by
  unfold dropZ
  split
  · rfl
  · split <;> rfl
theorem useZ_tm (Z : FdZ) (b : Nat) (k : Int) : (useZ Z b k).tm = Z.tm := by unfold useZ; split <;> rfl
theorem dropZ_gone {Z : FdZ} {T : Nat} {n : Int} (hk : ∀ b, (n, b) ∈ Z.kv T → ∃ o, Z.op b = some o) : kvG ((dropZ Z T n).kv T) n = none := by
  unfold dropZ
  split
  · assumption
  · next b hb =>
    obtain ⟨o, ho⟩ := hk b (kvG_mem hb)
    rw [ho]
    simp only [FdZ.setOp, FdZ.setKv, if_true]
    exact kvG_kvD _ _
theorem dropZ_op {Z : FdZ} {T : Nat} {n : Int} {b : Nat} {o : Opn} (h : Z.op b = some o) : ∃ o', (dropZ Z T n).op b = some o' := by
  unfold dropZ
  split
  · exact ⟨o, h⟩
  · next c hc =>
    split
    · exact ⟨o, h⟩
    · next oc hoc =>
      by_cases e : b = c
      · exact ⟨oc.use (-1), by simp only [FdZ.setOp, if_pos e]⟩
      · exact ⟨o, by simp only [FdZ.setOp, if_neg e]; exact h⟩

theorem fdPut_any (h : FdS N Z w F a d room calls fail) {T M : Nat} (hT : Z.tm T = some M) (n : Int) {b : Nat} {o : Opn} (hb : Z.op b = some o) (hu : ∀ b o, Z.op b = some o → -2305843009213693952 ≤ o.uses ∧ o.uses ≤ 2305843009213693952) :
    Calls Tryz.prog 56 #[.pointer (some ⟨T, 0, none⟩), .int .i64 n, .pointer (some ⟨b, 0, none⟩)] w (FdTo N (putZ Z T n b) w F a (putF Z d T n b) room calls fail (.returned (.tuple #[]))) := by
  obtain ⟨pp, id, at', fl, us⟩ := o
  have hus := hu b _ hb
  simp only at hus
  obtain ⟨hbx, hbt⟩ := h.opn b _ hb
  have c4 := hbx.cell 4 _ rfl
  have cz := hbx.fz
  have cl := hbx.lt
  have hwr : IntKind.i64.wrap (us + 1) = us + 1 := by rw [IntKind.wrap_i64]; omega
  have eU : useZ Z b 1 = Z.setOp b ((Opn.mk pp id at' fl us).use 1) := by unfold useZ; rw [hb]
  have H1 := Lib.hid (h.setOp (o' := (Opn.mk pp id at' fl us).use 1) hb 4 (.int .i64 (us + 1)) rfl rfl)
  have HK := Lib.hid ((keeps_set w ⟨b, 4, none⟩ (.int .i64 (us + 1))).mono (F := fun g => g = b) (G := fun g => ¬ N g) (fun g _ hg hN => by
    have := h.out g hN
    rw [show g = b from hg, hbt] at this
    cases this))
  rw [← eU] at H1
  have HU : Hid (∀ c oc, (useZ Z b 1).op c = some oc → -4611686018427387904 ≤ oc.uses ∧ oc.uses ≤ 4611686018427387904) := fun c oc hc => by
    rw [eU] at hc
    by_cases e : c = b
    · simp only [FdZ.setOp, if_pos e, Option.some.injEq] at hc
      rw [← hc]
      simp only [Opn.use]
      omega
    · simp only [FdZ.setOp, if_neg e] at hc
      have := hu c oc hc
      omega
  have hT1 : (useZ Z b 1).tm T = some M := by rw [useZ_tm]; exact hT
  have hop1 : ∃ o1, (useZ Z b 1).op b = some o1 := ⟨_, by rw [eU]; simp only [FdZ.setOp, if_true]; rfl⟩
  unfold putZ putF
  clear h hb hu hbx hbt eU hT
  generalize useZ Z b 1 = Z1 at *
  have HD := Lib.hid (fun (w1 : World) (hw : FdS N Z1 w1 F a d room calls fail) => fdDrop_any hw hT1 n HU.out)
  have hT2 : (dropZ Z1 T n).tm T = some M := by rw [dropZ_tm]; exact hT1
  have HG := Lib.hid (dropZ_gone (n := n) (T := T) (fun c hc => H1.out.kvs T n c hc))
  have HO : Hid (∃ o', (dropZ Z1 T n).op b = some o') := by obtain ⟨o1, ho1⟩ := hop1; exact dropZ_op ho1
  clear hT1 hop1 HU
  generalize dropZ Z1 T n = Z2 at *
  generalize dropF Z1 d T n = d2 at *
  go_enter Tryz.func56, Tryz.ntmps56
  go_upto_region 1 with fail
  clear c4 cz cl
  generalize w.setCell ⟨b, 4, none⟩ (.int .i64 (us + 1)) = w1 at *
  go_upto_region 2 with (go_at_call 105; go_loud (refine (HD.out _ H1.out).mono ?_); rintro e w2 ⟨rfl, H2, k2⟩)
  obtain ⟨hx, ht, htm⟩ := H2.tab T M hT2
  have t1 := hx.bx.cell 1 _ rfl
  have hmp := hx.map
  have hno : kvGet (kvV (Z2.kv T)) n = none := by rw [kvGet_kvV, HG.out]; rfl
  have HK2 := Lib.hid (HK.out.trans k2)
  have H2' := Lib.hid H2
  clear hx ht htm H2 k2 HK H1 HD
  go_wp2_with (at_mapUpdate; refine wpl_mapUpdate rfl (.tmp 19) (.tmp 20) (.tmp 21) _ rfl Tryz.underlying125 Tryz.underlying3 rfl hmp rfl rfl hno ?_; intro w3 hm3 hk3)
  go_end0
  obtain ⟨o', ho'⟩ := HO.out
  refine ⟨rfl, H2'.out.setKv hT2 (l := Z2.kv T ++ [(n, b)]) (by unfold kvV; rw [List.map_append]; exact hm3) hk3 (fun m c hm => ?_), HK2.out.trans (hk3.mono (fun g _ hg hN => ?_))⟩
  · rcases List.mem_append.1 hm with hm | hm
    · exact H2'.out.kvs T m c hm
    · simp only [List.mem_singleton, Prod.mk.injEq] at hm
      rw [hm.2]
      exact ⟨o', ho'⟩
  · have := H2'.out.out g hN
    rw [show g = M from hg, (H2'.out.tab T M hT2).2.2] at this
    cases this

end
end Go.Proofs.YtbmalnllppamdaaGreatDoor

/-
  Layer 7: contracts of tables: New, Open.
-/
set_option maxRecDepth 100000
set_option maxHeartbeats 4000000
namespace Go.Proofs.YtbmalnllppamdaaGreatDoor
open Go Go.RowKit


def newZ (Z : FdZ) (T M : Nat) : FdZ :=
  { Z with tg := fun g => if g = T ∨ g = M then .tab T else Z.tg g, tm := fun x => if x = T then some M else Z.tm x, kv := fun x => if x = T then [] else Z.kv x }
def addZ (Z : FdZ) (b : Nat) (o : Opn) : FdZ := { Z with tg := fun g => if g = b then .opn b else Z.tg g, op := fun x => if x = b then some o else Z.op x }
def noZ : FdZ := ⟨fun _ => .no, fun _ => none, fun _ => [], fun _ => none, fun _ => ⟨#[]⟩, fun _ => 0⟩

section
variable {N : Nat → Prop} {Z : FdZ} {w w' : World} {F a : Nat} {d d' : Nds} {room calls calls' fail : Int}

theorem FdS.start (h : FSt N w F a d room calls fail) : FdS N noZ w F a d room calls fail :=
  ⟨h.less (fun g hg => hg.elim id (fun x => absurd rfl x)), fun _ _ => rfl, fun _ _ h => (by cases h), fun _ _ h => (by cases h), fun _ _ _ h => (by cases h), fun _ _ _ h => (by cases h)⟩

/-- New blocks are theirs. -/
theorem FSt.theirs {P : Nat → Prop} (h : FSt N w F a d room calls fail) (k : Keeps NoB w w') (hP : ∀ g, P g → N g ∨ (w.heap.size ≤ g ∧ g < w'.heap.size)) : FSt P w' F a d room calls fail := by
  obtain ⟨N1, g1, g2, g3⟩ := h.wider k
  exact g3.less (fun g hg => (hP g hg).elim (g1 g) (fun h => g2 g h.1 h.2))

/-- Something open comes. -/
theorem FdS.add (h : FdS N Z w F a d room calls fail) (o : Opn) (ho : o.pipe = none) {T : TypeId} {cs : Array Value} (hcs : cs.toList = o.cells) :
    FdS N (addZ Z w.heap.size o) (w.alloc (.cells cs T)) F a d room calls fail := by
  have k : Keeps NoB w (w.alloc (.cells cs T)) := (Keeps.refl _ _).alloc _
  have h1 := h.on k
  have hlt : ∀ g, Z.tg g ≠ .no → ¬ g = w.heap.size := fun g hg e => by have := h.low g hg; omega
  have htg : ∀ g, Z.tg g ≠ .no → (addZ Z w.heap.size o).tg g = Z.tg g := fun g hg => by simp only [addZ, if_neg (hlt g hg)]
  refine ⟨h.fs.theirs k (fun g hg => ?_), fun g hg => ?_, fun T M hT => ?_, fun b o2 hb => ?_, fun T n b hb => ?_, fun b o2 q hb hq => ?_⟩
  · rcases hg with hg | hg
    · exact .inl (.inl hg)
    · by_cases e : g = w.heap.size
      · exact .inr ⟨by omega, by rw [e]; simp⟩
      · exact .inl (.inr (by simpa only [addZ, if_neg e] using hg))
  · have := h.fs.low g (.inl hg)
    simp only [addZ, if_neg (show ¬ g = w.heap.size by omega)]
    exact h.out g hg
  · obtain ⟨h2, h3, h4⟩ := h1.tab T M hT
    exact ⟨h2, by rw [htg _ (by rw [h3]; intro x; cases x)]; exact h3, by rw [htg _ (by rw [h4]; intro x; cases x)]; exact h4⟩
  · by_cases e : b = w.heap.size
    · subst e
      have : o2 = o := by simpa [addZ] using hb.symm
      subst this
      have := Bx.new (Keeps.refl NoB (w.alloc (.cells cs T)))
      rw [hcs] at this
      exact ⟨this, by simp [addZ]⟩
    · obtain ⟨h2, h3⟩ := h1.opn b o2 (by simpa [addZ, e] using hb)
      exact ⟨h2, by rw [htg _ (by rw [h3]; intro x; cases x)]; exact h3⟩
  · obtain ⟨o2, h2⟩ := h.kvs T n b hb
    by_cases e : b = w.heap.size
    · exact ⟨o, by simp [addZ, e]⟩
    · exact ⟨o2, by simp [addZ, e, h2]⟩
  · by_cases e : b = w.heap.size
    · subst e
      have : o2 = o := by simpa [addZ] using hb.symm
      subst this
      rw [ho] at hq
      cases hq
    · have h2 := h1.pip b o2 q (by simpa [addZ, e] using hb) hq
      obtain ⟨v, c0, hov⟩ := h2.ex
      have hm : ∀ g, Z.tg g = .pip q → (addZ Z w.heap.size o).tg g = .pip q := fun g hg => by rw [htg g (by rw [hg]; intro x; cases x)]; exact hg
      exact ⟨⟨v, c0, hov.mono (fun g _ hg => ⟨hm g hg.1, hg.2⟩)⟩, h2.c1, h2.fz, h2.lt, hm _ h2.inS, h2.le, h2.small⟩

theorem fdNew_any (h : FdS N Z w F a d room calls fail) :
    Calls Tryz.prog 51 #[.pointer (some ⟨F, 0, none⟩)] w fun e w' => e = .returned (.pointer (some ⟨w.heap.size + 1, 0, none⟩)) ∧ FdS N (newZ Z (w.heap.size + 1) w.heap.size) w' F a d room calls fail ∧ Keeps NoB w w' := by
  have hmm := @run_makeMap Tryz.prog
  go_enter Tryz.func51, Tryz.ntmps51
  go_wp2
  go_ret
  have k1 : Keeps NoB w (w.alloc (.map #[] 0)) := (Keeps.refl _ _).alloc _
  have k2 : Keeps NoB (w.alloc (.map #[] 0)) ((w.alloc (.map #[] 0)).alloc (.cells #[.pointer (some ⟨F, 0, none⟩), .map (some w.heap.size)] 127)) := (Keeps.refl _ _).alloc _
  have e1 : (w.alloc (.map #[] 0)).heap.size = w.heap.size + 1 := by simp
  have hB := Bx.new (Keeps.refl NoB ((w.alloc (.map #[] 0)).alloc (.cells #[.pointer (some ⟨F, 0, none⟩), .map (some w.heap.size)] 127)))
  rw [e1] at hB
  have hM := (IMap.made w).keep k2 (fun h => h)
  have h1 := h.on (k1.trans k2)
  have hs : ((w.alloc (.map #[] 0)).alloc (.cells #[.pointer (some ⟨F, 0, none⟩), .map (some w.heap.size)] 127)).heap.size = w.heap.size + 2 := by simp
  have k12 := k1.trans k2
  refine ⟨rfl, ?_, k12⟩
  generalize ((w.alloc (.map #[] 0)).alloc (.cells #[.pointer (some ⟨F, 0, none⟩), .map (some w.heap.size)] 127)) = w2 at *
  have hlt : ∀ g, Z.tg g ≠ .no → ¬ (g = w.heap.size + 1 ∨ g = w.heap.size) := fun g hg e => by have := h.low g hg; omega
  have htg : ∀ g, Z.tg g ≠ .no → (newZ Z (w.heap.size + 1) w.heap.size).tg g = Z.tg g := fun g hg => by simp only [newZ, if_neg (hlt g hg)]
  have hnt : ∀ T M, Z.tm T = some M → ¬ T = w.heap.size + 1 := fun T M hT e => by
    have := (h.tab T M hT).2.1
    exact hlt T (by rw [this]; intro x; cases x) (.inl e)
  refine ⟨h.fs.theirs k12 (fun g hg => ?_), fun g hg => ?_, fun T M hT => ?_, fun b o hb => ?_, fun T n b hb => ?_, fun b o q hb hq => ?_⟩
  · rcases hg with hg | hg
    · exact .inl (.inl hg)
    · by_cases e : g = w.heap.size + 1 ∨ g = w.heap.size
      · exact .inr ⟨by omega, by omega⟩
      · exact .inl (.inr (by simpa only [newZ, if_neg e] using hg))
  · have := h.fs.low g (.inl hg)
    simp only [newZ, if_neg (show ¬ (g = w.heap.size + 1 ∨ g = w.heap.size) by omega)]
    exact h.out g hg
  · by_cases e : T = w.heap.size + 1
    · subst e
      have : M = w.heap.size := by simpa [newZ] using hT.symm
      subst this
      refine ⟨⟨hB, ?_, by omega⟩, by simp [newZ], by simp [newZ]⟩
      simpa [newZ, kvV] using hM
    · have hT2 : Z.tm T = some M := by simpa [newZ, e] using hT
      obtain ⟨h2, h3, h4⟩ := h1.tab T M hT2
      refine ⟨⟨h2.bx, ?_, h2.ne⟩, by rw [htg _ (by rw [h3]; intro x; cases x)]; exact h3, by rw [htg _ (by rw [h4]; intro x; cases x)]; exact h4⟩
      have := h2.map
      simpa [newZ, e] using this
  · obtain ⟨h2, h3⟩ := h1.opn b o hb
    exact ⟨h2, by rw [htg _ (by rw [h3]; intro x; cases x)]; exact h3⟩
  · by_cases e : T = w.heap.size + 1
    · simp [newZ, e] at hb
    · exact h.kvs T n b (by simpa [newZ, e] using hb)
  · have h2 := h1.pip b o q hb hq
    obtain ⟨v, c0, hov⟩ := h2.ex
    have hm : ∀ g, Z.tg g = .pip q → (newZ Z (w.heap.size + 1) w.heap.size).tg g = .pip q := fun g hg => by rw [htg g (by rw [hg]; intro x; cases x)]; exact hg
    exact ⟨⟨v, c0, hov.mono (fun g _ hg => ⟨hm g hg.1, hg.2⟩)⟩, h2.c1, h2.fz, h2.lt, hm _ h2.inS, h2.le, h2.small⟩

/-- The flags that files know. -/
def bareF (flags : Int) : Int := bits BinOp.andNot IntKind.i64 flags 32

theorem fdOpen_ok (h : FdS N Z w F a d room calls fail) {T M : Nat} (hT : Z.tm T = some M) (n : Int) (hn0 : 0 ≤ n) (hn1 : n < 64) (hc0 : 0 ≤ calls) (hc1 : calls ≤ 4611686018427387904) (hbm : mass d + 3 ≤ 2147483648)
    (hu : ∀ b o, Z.op b = some o → -2305843009213693952 ≤ o.uses ∧ o.uses ≤ 2305843009213693952) (at' mask : Int) (s : ByteArray) (flags m : Int) (hsz : s.size ≤ 4294967280) (he : (openF calls fail d room at' mask s (bareF flags) m).2.2 = 0) :
    Calls Tryz.prog 12 #[.pointer (some ⟨T, 0, none⟩), .int .i64 n, .agg #[.int .i64 at', .int .i64 mask], .string s, .int .i64 flags, .int .i64 m] w fun e w' =>
      ∃ b, w.heap.size ≤ b ∧ FdTo N (putZ (addZ Z b ⟨none, (openF calls fail d room at' mask s (bareF flags) m).2.1, 0, flags, 0⟩) T n b) w F a (putF (addZ Z b ⟨none, (openF calls fail d room at' mask s (bareF flags) m).2.1, 0, flags, 0⟩) (openF calls fail d room at' mask s (bareF flags) m).1 T n b) room (openN calls (bareF flags)) fail (.returned (.int .i64 0)) e w' := by
  have HRi := Lib.hid (fun wx : World => fdRight_any n wx)
  rw [decide_eq_true hn0, decide_eq_true hn1] at HRi
  have kz0 : Keeps NoB w (w.alloc (.cells #[.int .i64 at', .int .i64 mask] 44)) := (Keeps.refl _ _).alloc _
  obtain ⟨N1, hsub, hnew, FS⟩ := h.wider kz0
  have HW := Lib.hid (Bx.new (Keeps.refl NoB (w.alloc (.cells #[.int .i64 at', .int .i64 mask] 44))))
  have HNW := Lib.hid (hnew w.heap.size (Nat.le_refl _) (by simp))
  have HK := Lib.hid (kz0.of_none (F := fun g => ¬ N g))
  have HSub := Lib.hid hsub
  have HFS := Lib.hid FS
  have HT := Lib.hid hT
  have HU := Lib.hid hu
  have HSZ := Lib.hid kz0.size
  obtain ⟨bf, hbf⟩ : ∃ bf, bareF flags = bf := ⟨_, rfl⟩
  obtain ⟨O, hOO⟩ : ∃ O, openF calls fail d room at' mask s (bareF flags) m = O := ⟨_, rfl⟩
  rw [hbf] at hOO
  have hbf2 : bits BinOp.andNot IntKind.i64 flags 32 = bf := hbf
  rw [hbf] at he
  simp only [hbf, hOO]
  rw [hOO] at he
  clear hsub hnew h kz0 FS hT hu hbf
  go_enter Tryz.func12, Tryz.ntmps12
  go_upto_region 3 with (go_at_call 54; refine (HRi.out _).mono ?_; rintro e w' ⟨rfl, rfl⟩)
  generalize w.alloc (.cells #[.int .i64 at', .int .i64 mask] 44) = wc at *
  have HO := Lib.hid ((HFS.out.on (Keeps.refl NoB wc).drew).files fun N hN => open_any hN hc0 hc1 hbm at' mask s bf m hsz)
  rw [hOO] at HO
  obtain ⟨dO, iO, eO⟩ := O
  subst he
  obtain ⟨tx, _, _⟩ := HFS.out.tab T M HT.out
  have t0 := tx.bx.cell 0 _ rfl
  have b0 := HW.out.cell 0 _ rfl
  have b1 := HW.out.cell 1 _ rfl
  clear hOO hc0 hc1 hbm
  go_cut [13, 14] from 13 to 30 (fun x y wx => x = .int .i64 iO ∧ y = .int .i64 0 ∧ FdS N1 Z wx F a dO room (openN calls bf) fail ∧ Keeps (fun g => ¬ N1 g) wc.drew wx)
  case first =>
    have d0 := ((HFS.out.tab T M HT.out).1.bx.on (Keeps.refl NoB wc).drew).cell 0 _ rfl
    have d1 := (HW.out.on (Keeps.refl NoB wc).drew).cell 0 _ rfl
    have d2 := (HW.out.on (Keeps.refl NoB wc).drew).cell 1 _ rfl
    go_region_held3 (fun wz => wz.cell? ⟨T, 0, none⟩ = some (.pointer (some ⟨F, 0, none⟩)) ∧ wz.cell? ⟨w.heap.size, 0, none⟩ = some (.int .i64 at') ∧ wz.cell? ⟨w.heap.size, 1, none⟩ = some (.int .i64 mask)) (refine ⟨?_, ?_, ?_⟩ <;> with_reducible assumption)
      (first | (go_at_call 55; refine HO.out.mono ?_; rintro e w4 ⟨rfl, FX4, k4⟩; have z0 := (FX4.tab T M HT.out).1.bx.cell 0 _ rfl; have z1 := ((HW.out.on (Keeps.refl NoB wc).drew).keep k4 (fun hh => hh HNW.out)).cell 0 _ rfl; have z2 := ((HW.out.on (Keeps.refl NoB wc).drew).keep k4 (fun hh => hh HNW.out)).cell 1 _ rfl))
    all_goals (go_wp2_with fail; go_meet; exact ⟨rfl, rfl, FX4, k4⟩)
  case rest =>
    obtain ⟨rfl, rfl, FX, k4⟩ := hcut
    have HX := Lib.hid FX
    replace HK := Lib.hid (HK.out.trans ((Keeps.refl _ _).drew.trans (k4.mono (fun g _ hg hN => hg (HSub.out g hN)))))
    have HB := Lib.hid HK.out.size
    have HA := Lib.hid (HX.out.add ⟨none, iO, 0, flags, 0⟩ rfl (T := 133) (cs := #[.pointer none, .int .i64 iO, .int .i64 0, .int .i64 flags, .int .i64 0]) rfl)
    have HP := Lib.hid (fdPut_any HA.out (T := T) (M := M) (b := wc.heap.size) (o := ⟨none, iO, 0, flags, 0⟩) HT.out n (by simp [addZ]) (fun c oc hc => by
      by_cases e : c = wc.heap.size
      · simp only [addZ, if_pos e, Option.some.injEq] at hc
        rw [← hc]
        simp only
        omega
      · exact HU.out c oc (by simpa only [addZ, if_neg e] using hc)))
    have ka : Keeps NoB wc (wc.alloc (.cells #[.pointer none, .int .i64 iO, .int .i64 0, .int .i64 flags, .int .i64 0] 133)) := (Keeps.refl _ _).alloc _
    have HK2 := Lib.hid (HK.out.trans ka.of_none)
    clear t0 b0 b1 HO k4 FX ka
    go_wp2_with (go_at_call 56; go_loud (refine HP.out.mono ?_); rintro e w5 ⟨rfl, H5, k5⟩)
    go_ret
    exact ⟨wc.heap.size, HB.out, rfl, H5.less HSub.out, HK2.out.trans (k5.mono (fun g _ hg hN => hg (HSub.out g hN)))⟩

/-- The number of something open. -/
theorem fdNode_file (h : FdS N Z w F a d room calls fail) {T M : Nat} (hT : Z.tm T = some M) (n : Int) {b : Nat} {o : Opn} (hk : kvG (Z.kv T) n = some b) (hb : Z.op b = some o) (hp : o.pipe = none) :
    Calls Tryz.prog 16 #[.pointer (some ⟨T, 0, none⟩), .int .i64 n] w fun e w' => e = .returned (.tuple #[.int .i64 o.id, .bool true]) ∧ w = w' := by
  obtain ⟨hx, _, _⟩ := h.tab T M hT
  have t1 := hx.bx.cell 1 _ rfl
  have hlk := hx.map.lookup (P := Tryz.prog) Tryz.underlying125 Tryz.underlying3 (z := .pointer none) (by kernel_rfl) n
  rw [kvGet_kvV, hk] at hlk
  simp only [Option.map_some, Option.getD_some] at hlk
  obtain ⟨hbx, _⟩ := h.opn b o hb
  have c0 := hbx.cell 0 _ rfl
  have c1 := hbx.cell 1 _ rfl
  rw [hp] at c0
  simp only [pipV] at c0
  clear h hx hbx hk
  go_enter Tryz.func16, Tryz.ntmps16
  go_wp2
  go_ret2
  exact ⟨rfl, rfl⟩

theorem fdDup_ok (h : FdS N Z w F a d room calls fail) {T M : Nat} (hT : Z.tm T = some M) (n m : Int) (hn0 : 0 ≤ m) (hn1 : m < 64) (hne : n ≠ m) {b : Nat} {o : Opn} (hk : kvG (Z.kv T) n = some b) (hb : Z.op b = some o) (hu : ∀ b o, Z.op b = some o → -2305843009213693952 ≤ o.uses ∧ o.uses ≤ 2305843009213693952) :
    Calls Tryz.prog 14 #[.pointer (some ⟨T, 0, none⟩), .int .i64 n, .int .i64 m] w (FdTo N (putZ Z T m b) w F a (putF Z d T m b) room calls fail (.returned (.int .i64 0))) := by
  have HRi := Lib.hid (fun wx : World => fdRight_any m wx)
  rw [decide_eq_true hn0, decide_eq_true hn1] at HRi
  obtain ⟨hx, _, _⟩ := h.tab T M hT
  have t1 := hx.bx.cell 1 _ rfl
  have hlk := hx.map.lookup (P := Tryz.prog) Tryz.underlying125 Tryz.underlying3 (z := .pointer none) (by kernel_rfl) n
  rw [kvGet_kvV, hk] at hlk
  simp only [Option.map_some, Option.getD_some] at hlk
  have HP := Lib.hid (fdPut_any h hT m hb hu)
  have hnb : (n != m) = true := by simpa using hne
  clear h hx hk hu hne
  go_enter Tryz.func14, Tryz.ntmps14
  go_wp2_with (first | (go_at_call 54; refine (HRi.out _).mono ?_; rintro e w' ⟨rfl, rfl⟩) | (go_at_call 56; go_loud (refine HP.out.mono ?_); rintro e w5 ⟨rfl, H5, k5⟩))
  go_ret
  exact ⟨rfl, H5, k5⟩

end
end Go.Proofs.YtbmalnllppamdaaGreatDoor

/-
  Layer 7: contracts of tables: Write, Read, All, of files.
-/
set_option maxRecDepth 100000
set_option maxHeartbeats 4000000
namespace Go.Proofs.YtbmalnllppamdaaGreatDoor
open Go Go.RowKit

def Opn.to (o : Opn) (x : Int) : Opn := { o with at' := x }

section
variable {N : Nat → Prop} {Z : FdZ} {w w' : World} {F a : Nat} {d d' : Nds} {room calls calls' fail : Int}

theorem fdWrite_none (h : FdS N Z w F a d room calls fail) {T M : Nat} (hT : Z.tm T = some M) (n : Int) {b : Nat} {o : Opn} (hk : kvG (Z.kv T) n = some b) (hb : Z.op b = some o) (hf : flg o.flags 2 = true) :
    Calls Tryz.prog 15 #[.pointer (some ⟨T, 0, none⟩), .int .i64 n, .string ⟨#[]⟩] w fun e w' => e = .returned (.int .i64 0) ∧ w = w' := by
  obtain ⟨hx, _, _⟩ := h.tab T M hT
  have t1 := hx.bx.cell 1 _ rfl
  have hlk := hx.map.lookup (P := Tryz.prog) Tryz.underlying125 Tryz.underlying3 (z := .pointer none) (by kernel_rfl) n
  rw [kvGet_kvV, hk] at hlk
  simp only [Option.map_some, Option.getD_some] at hlk
  obtain ⟨hbx, _⟩ := h.opn b o hb
  have c3 := hbx.cell 3 _ rfl
  have g2 := flg_zero o.flags 2
  rw [hf] at g2
  have hem := isEmpty_eq ⟨#[]⟩
  rw [decide_eq_true rfl] at hem
  clear h hx hbx hk hf
  go_enter Tryz.func15, Tryz.ntmps15
  go_wp2
  go_ret
  exact ⟨rfl, rfl⟩

theorem fdWrite_file (h : FdS N Z w F a d room calls fail) {T M : Nat} (hT : Z.tm T = some M) (n : Int) {b : Nat} {o : Opn} (hk : kvG (Z.kv T) n = some b) (hb : Z.op b = some o) (hp : o.pipe = none) (hf : flg o.flags 2 = true) (ha : flg o.flags 32 = false)
    (hc0 : 0 ≤ calls) (hc1 : calls ≤ 4611686018427387904) (s : ByteArray) (hs : s ≠ ⟨#[]⟩) (hsz : s.size ≤ 4294967296) (hat : 0 ≤ o.at' ∧ o.at' ≤ 4611686018427387904) :
    Calls Tryz.prog 15 #[.pointer (some ⟨T, 0, none⟩), .int .i64 n, .string s] w (FdTo N (if (wrtF calls fail d room o.id o.at' s).2 = 0 then Z.setOp b (o.to (o.at' + s.size)) else Z) w F a (wrtF calls fail d room o.id o.at' s).1 room (calls + 1) fail (.returned (.int .i64 (wrtF calls fail d room o.id o.at' s).2))) := by
  obtain ⟨hx, _, _⟩ := h.tab T M hT
  have t1 := hx.bx.cell 1 _ rfl
  have t0 := hx.bx.cell 0 _ rfl
  have hlk := hx.map.lookup (P := Tryz.prog) Tryz.underlying125 Tryz.underlying3 (z := .pointer none) (by kernel_rfl) n
  rw [kvGet_kvV, hk] at hlk
  simp only [Option.map_some, Option.getD_some] at hlk
  obtain ⟨hbx, _⟩ := h.opn b o hb
  have c0 := hbx.cell 0 _ rfl
  have c1 := hbx.cell 1 _ rfl
  have c2 := hbx.cell 2 _ rfl
  have c3 := hbx.cell 3 _ rfl
  rw [hp] at c0
  simp only [pipV] at c0
  have g2 := flg_zero o.flags 2
  rw [hf] at g2
  have g32 := flg_one o.flags 32
  rw [ha] at g32
  have hem := isEmpty_eq s
  rw [decide_eq_false hs] at hem
  have hwr : IntKind.i64.wrap (o.at' + (s.size : Int)) = o.at' + (s.size : Int) := by rw [IntKind.wrap_i64]; omega
  have HW := Lib.hid ((h.on (Keeps.refl NoB w).drew).files fun N hN => fwrite_any hN hc0 hc1 o.id o.at' s hsz)
  obtain ⟨⟨dO, eO⟩, hO⟩ : ∃ O, wrtF calls fail d room o.id o.at' s = O := ⟨_, rfl⟩
  rw [hO] at HW ⊢
  simp only
  have HB := Lib.hid hb
  obtain ⟨ZF, hZF⟩ : ∃ ZF, (if eO = 0 then Z.setOp b (o.to (o.at' + s.size)) else Z) = ZF := ⟨_, rfl⟩
  rw [hZF]
  have HZF := Lib.hid hZF
  have HTG := Lib.hid (fun g (hN : N g) => show ¬ g = b from fun e => by
    have h1 := h.out g hN
    rw [e, (h.opn b o hb).2] at h1
    cases h1)
  clear h hx hbx hk hO hs hp hf ha hc0 hc1 hb hZF
  go_enter Tryz.func15, Tryz.ntmps15
  go_upto_region 12 with fail
  go_still_tail 10, (by kernel_rfl)
  change wpList _ _ _ _ _ w.drew
  have kd : Keeps NoB w w.drew := (Keeps.refl _ _).drew
  have HK := Lib.hid (kd.of_none (F := fun g => ¬ N g))
  clear c0 c1 c2 c3 t0 t1 hlk kd
  generalize w.drew = w1 at *
  by_cases hz : eO = 0
  · subst hz
    have E9 := Lib.hid (show Z.setOp b (o.to (o.at' + s.size)) = ZF by rw [← HZF.out, if_pos rfl])
    clear HZF
    go_upto_region 15 with (go_at_call 58; go_loud (refine HW.out.mono ?_); rintro e w2 ⟨rfl, H2, k2⟩)
    obtain ⟨hbx, _⟩ := H2.opn b o HB.out
    have c2 := hbx.cell 2 _ rfl
    have cz := hbx.fz
    have cl := hbx.lt
    have H3 := Lib.hid (H2.setOp (o' := o.to (o.at' + s.size)) HB.out 2 (.int .i64 (o.at' + s.size)) rfl rfl)
    rw [E9.out] at H3
    have HK2 := Lib.hid ((HK.out.trans k2).trans ((keeps_set w2 ⟨b, 2, none⟩ (.int .i64 (o.at' + s.size))).mono (F := fun g => g = b) (G := fun g => ¬ N g) (fun g _ hg hN => HTG.out g hN hg)))
    clear H2 k2 HK hbx
    go_wp2_with fail
    go_ret
    exact ⟨rfl, H3.out, HK2.out⟩
  · have hb : (eO != 0) = true := by simpa using hz
    have e9 : Z = ZF := by rw [← HZF.out, if_neg hz]
    subst e9
    clear hz
    go_wp2_with (go_at_call 58; go_loud (refine HW.out.mono ?_); rintro e w2 ⟨rfl, H2, k2⟩)
    go_ret
    exact ⟨rfl, H2, HK.out.trans k2⟩

end
end Go.Proofs.YtbmalnllppamdaaGreatDoor
