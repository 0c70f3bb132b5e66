/-
  Layer 7, plain: writing over what is there.
-/
import Derived.Test.YtbmalnllppamdaaGreatDoorC11

set_option linter.unusedSimpArgs false
set_option linter.unusedVariables false

set_option maxRecDepth 100000
namespace Go.Proofs.YtbmalnllppamdaaGreatDoor

theorem ext_none (V : ByteArray) (a : Nat) (h : V.size ≤ a) : V.extract a V.size = ⟨#[]⟩ := by
  apply ba_ext
  have : (V.extract a V.size).size = 0 := by rw [ByteArray.size_extract]; omega
  rw [← len_data] at this
  exact List.eq_nil_of_length_eq_zero this
theorem nil_app (s : ByteArray) : (⟨#[]⟩ : ByteArray) ++ s = s := by
  apply ba_ext
  simp

/-- At the start: s, then what was longer. -/
theorem wrD_zero (V s : ByteArray) : wrD V 0 s = s ++ V.extract (min s.size V.size) V.size := by
  have h0 : V.extract 0 0 = ⟨#[]⟩ := by
    apply ba_ext
    have : (V.extract 0 0).size = 0 := by rw [ByteArray.size_extract]; omega
    rw [← len_data] at this
    exact List.eq_nil_of_length_eq_zero this
  unfold wrD
  by_cases h : s.size < V.size
  · have e := write_within (D := V) (s := s) (X := 0) (by omega)
    rw [h0, nil_app, Nat.zero_add] at e
    rw [Nat.zero_add, ← e, Nat.min_eq_left (by omega)]
  · have e := write_past (D := V) (s := s) (X := 0) (by omega) (by omega)
    rw [h0, nil_app, Nat.zero_add] at e
    rw [Nat.zero_add, ← e, Nat.min_eq_right (by omega), ext_none V V.size (Nat.le_refl _)]
    apply ba_ext
    simp
theorem wrD_end (V s : ByteArray) : wrD V V.size s = V ++ s := by
  have e := write_past (D := V) (s := s) (X := V.size) (Nat.le_refl _) (by omega)
  rw [ByteArray.extract_zero_size] at e
  unfold wrD
  exact e.symm

/-- A table with number 1, and others. -/
structure AS (Z : FdZ) (T M : Nat) (l : List (Int × Nat)) (b1 : Nat) (o1 : Opn) (K : Int) : Prop where
  tm : Z.tm T = some M
  kv : Z.kv T = l
  one : kvG l 1 = some b1
  op : Z.op b1 = some o1
  ub : UB Z K

section
variable {Z : FdZ} {T M b1 b : Nat} {l : List (Int × Nat)} {o1 o : Opn} {K : Int}
/-- One more thing, at a free number. -/
theorem AS.opens (h : AS Z T M l b1 o1 K) {n : Int} (hk : kvG l n = none) (hb : b ≠ b1) (hK : -K ≤ o.uses ∧ o.uses + 1 ≤ K) (d : Nds) :
    AS (putZ (addZ Z b o) T n b) T M (l ++ [(n, b)]) b1 o1 K ∧ (putZ (addZ Z b o) T n b).op b = some (o.use 1) ∧ kvG (l ++ [(n, b)]) n = some b ∧ putF (addZ Z b o) d T n b = d := by
  obtain ⟨e1, e2⟩ := putZ_free (Z := addZ Z b o) (d := d) (T := T) (n := n) (b := b) (o := o) (by show kvG (Z.kv T) n = none; rw [h.kv]; exact hk) (by simp [addZ])
  have hub : UB (addZ Z b o) K := fun c oc hc => by
    by_cases e : c = b
    · simp only [addZ, if_pos e, Option.some.injEq] at hc
      rw [← hc]
      omega
    · exact h.ub c oc (by simpa only [addZ, if_neg e] using hc)
  rw [e1]
  refine ⟨⟨h.tm, by simp [FdZ.setKv, addZ, FdZ.setOp, h.kv], by rw [kvG_snoc, h.one], ?_, UB.setOp (Z := addZ Z b o) hub (by simp only [Opn.use]; omega)⟩, by simp [FdZ.setKv, FdZ.setOp], by rw [kvG_snoc, hk]; simp, e2⟩
  show (if b1 = b then some (o.use 1) else if b1 = b then some o else Z.op b1) = some o1
  rw [if_neg (fun e => hb e.symm), if_neg (fun e => hb e.symm)]
  exact h.op
/-- Something else is written. -/
theorem AS.to (h : AS Z T M l b1 o1 K) (hb : b ≠ b1) (hK : -K ≤ o.uses ∧ o.uses ≤ K) : AS (Z.setOp b o) T M l b1 o1 K :=
  ⟨h.tm, h.kv, h.one, by show (if b1 = b then some o else Z.op b1) = some o1; rw [if_neg (fun e => hb e.symm)]; exact h.op, h.ub.setOp hK⟩
end

/-- The file is made. -/
theorem once_open : (openF 0 (-1) newD 65536 1 18 ⟨#[97]⟩ (bareF 6) 384).2 = (2, 0) ∧ One (openF 0 (-1) newD 65536 1 18 ⟨#[97]⟩ (bareF 6) 384).1 2 [(⟨#[97]⟩, 2)] 384 1 ⟨#[]⟩ := by
  have hb : bareF 6 = 6 := by decide
  rw [hb]
  have n1 : nd newD 1 = rootNd := by rw [nd_new, if_pos rfl]
  have hin : intoErr newD 1 = 0 := by unfold intoErr folderErr; rw [n1]; decide
  have hal : aloneF 6 = false := by decide
  have hf : fndR newD 1 ⟨#[97]⟩ true = (⟨0, 1, ⟨#[97]⟩⟩, 0) := by
    have := find_1 (d := newD) (up := upC newD) (s := ⟨#[97]⟩) (a := ⟨#[97]⟩) (follow := true) hin (by decide) (by decide) (by decide) (by decide) (by decide) (by decide) (by decide) (fun k hk => by rw [n1] at hk; cases hk) 40 0
    rw [n1] at this
    exact this
  have hmy : mayE newD 1 128 = 0 := by unfold mayE; rw [if_neg (by rw [has_new]; simp), n1]; decide
  obtain ⟨g1, g2, g3⟩ := made_go (d := newD) (room := 65536) (kind := 1) (m := freshM 384 18) (s := ⟨#[]⟩) (at' := 1) (nm := ⟨#[97]⟩) inv_new (by decide) (by decide) (by decide) (by decide) (by decide) (by decide)
    (by unfold folderErr; rw [n1]; decide) (by rw [n1]; decide) (by rw [count_new]; decide) (by rw [used_new]; decide)
  obtain ⟨h1, h2, h3⟩ := fresh_ok (d := newD) (room := 65536) (p := ⟨0, 1, ⟨#[97]⟩⟩) (m := 384) (mask := 18) (flags := 6) (t := ⟨#[97]⟩) (by decide) (by decide) hmy g1 g2 g3
  have e : openF 0 (-1) newD 65536 1 18 ⟨#[97]⟩ 6 384 = freshR newD 65536 18 ⟨0, 1, ⟨#[97]⟩⟩ ⟨#[97]⟩ 6 384 := by
    unfold openF
    rw [if_neg (fun x => x.2 (by decide))]
    unfold openR
    rw [hal]
    simp only [Bool.not_false]
    rw [hf, if_neg (by simp), if_pos rfl]
  rw [e]
  refine ⟨h1, ?_, ?_, fun j j1 j2 => ?_, by decide, fun x hx => ?_, by decide⟩
  · rw [h3, if_neg (by decide), if_pos rfl, n1]
    exact congrArg (Nd.mk 2 493 0 ⟨#[]⟩) (by decide : entPut [] ⟨#[97]⟩ ((newD.length : Nat) : Int) = [((⟨#[97]⟩ : ByteArray), (2 : Int))])
  · rw [h3, if_pos (by decide)]
    exact congrArg (fun x => Nd.mk 1 x 1 ⟨#[]⟩ []) (by decide : freshM 384 18 = 384)
  · rw [h3, if_neg (by simpa [newD] using j2), if_neg j1, nd_new, if_neg j1]
  · simp only [List.mem_singleton] at hx
    rw [hx]


theorem lead_a : Lead ⟨#[97]⟩ ⟨#[97]⟩ := ⟨by decide, by decide, ⟨[], by decide, fun _ hx => (List.not_mem_nil hx).elim⟩, fun h => by rcases h with h | h <;> exact absurd h (by decide), by decide⟩
/-- It is opened once more, for writing (2) or reading (1). -/
theorem once_again {d : Nds} {holds : Int} {data : ByteArray} (h : One d 2 [((⟨#[97]⟩ : ByteArray), (2 : Int))] 384 holds data) (c mask flags m : Int) (hf : flags = 1 ∨ flags = 2) :
    (openF c (-1) d 65536 1 mask ⟨#[97]⟩ (bareF flags) m).2 = (2, 0) ∧ One (openF c (-1) d 65536 1 mask ⟨#[97]⟩ (bareF flags) m).1 2 [((⟨#[97]⟩ : ByteArray), (2 : Int))] 384 (holds + 1) data := by
  have hb : bareF flags = flags := by rcases hf with rfl | rfl <;> decide
  have hc : openC flags = false := by rcases hf with rfl | rfl <;> decide
  have e : openF c (-1) d 65536 1 mask ⟨#[97]⟩ (bareF flags) m = openR d 65536 1 mask ⟨#[97]⟩ flags m := by
    rw [hb]
    unfold openF
    rw [if_neg (by rw [hc]; simp)]
  rw [e]
  have ha : aloneF flags = false := by rcases hf with rfl | rfl <;> decide
  have h8 : flg flags 8 = false := by rcases hf with rfl | rfl <;> decide
  exact one_open h lead_a (by rfl) mask flags m ha h8 (by rintro (⟨_, x⟩ | ⟨_, x⟩) <;> exact absurd x (by decide))

end Go.Proofs.YtbmalnllppamdaaGreatDoor
