/-
  Layer 7, plain: what FdOnce holds between its writes.
-/
import Derived.Test.YtbmalnllppamdaaGreatDoorZOnceM
import Derived.Test.YtbmalnllppamdaaGreatDoorC01

set_option linter.unusedSimpArgs false
set_option linter.unusedVariables false

set_option maxRecDepth 100000
namespace Go.Proofs.YtbmalnllppamdaaGreatDoor

theorem kvG_keys {l : List (Int × Nat)} {n : Int} (h : ∀ x ∈ l, x.1 < n) : kvG l n = none := by
  unfold kvG
  rw [Option.map_eq_none_iff, List.find?_eq_none]
  intro x hx
  have := h x hx
  simp
  omega

section
variable {Z : FdZ} {T M b1 : Nat} {l : List (Int × Nat)} {o1 : Opn} {K : Int}
/-- Another number of the same thing. -/
theorem AS.dup (h : AS Z T M l b1 o1 K) {n : Int} (hk : kvG l n = none) (hK : -K ≤ o1.uses + 1 ∧ o1.uses + 1 ≤ K) (d : Nds) :
    AS (putZ Z T n b1) T M (l ++ [(n, b1)]) b1 (o1.use 1) K ∧ kvG (l ++ [(n, b1)]) n = some b1 ∧ putF Z d T n b1 = d := by
  obtain ⟨h1, h2⟩ := putZ_free (d := d) (T := T) (n := n) (by rw [h.kv]; exact hk) h.op
  rw [h1]
  exact ⟨⟨h.tm, by simp [FdZ.setKv, FdZ.setOp, h.kv], by rw [kvG_snoc, h.one], by simp [FdZ.setKv, FdZ.setOp], UB.setOp (Z := Z) h.ub hK⟩, by rw [kvG_snoc, hk]; simp, h2⟩
/-- It is read or written. -/
theorem AS.move (h : AS Z T M l b1 o1 K) (x : Int) : AS (Z.setOp b1 (o1.to x)) T M l b1 (o1.to x) K :=
  ⟨h.tm, h.kv, h.one, by simp [FdZ.setOp], h.ub.setOp (h.ub b1 o1 h.op)⟩
/-- The first thing. -/
theorem AS.begin {b : Nat} {o : Opn} (ht : Z.tm T = some M) (hv : Z.kv T = []) (ho : ∀ c oc, Z.op c = some oc → -K ≤ oc.uses ∧ oc.uses ≤ K) (hK : -K ≤ o.uses ∧ o.uses + 1 ≤ K) (d : Nds) :
    AS (putZ (addZ Z b o) T 1 b) T M [(1, b)] b (o.use 1) K ∧ putF (addZ Z b o) d T 1 b = d := by
  have hk : kvG ((addZ Z b o).kv T) 1 = none := by show kvG (Z.kv T) 1 = none; rw [hv]; rfl
  obtain ⟨e1, e2⟩ := putZ_free (Z := addZ Z b o) (d := d) (T := T) (n := 1) (b := b) (o := o) hk (by simp [addZ])
  have hub : UB (addZ Z b o) K := fun c oc hc => by
    by_cases e : c = b
    · simp only [addZ, if_pos e, Option.some.injEq] at hc
      rw [← hc]
      omega
    · exact ho c oc (by simpa only [addZ, if_neg e] using hc)
  rw [e1]
  exact ⟨⟨ht, by simp [FdZ.setKv, FdZ.setOp, addZ, hv], rfl, by simp [FdZ.setKv, FdZ.setOp], UB.setOp (Z := addZ Z b o) hub (by simp only [Opn.use]; omega)⟩, e2⟩
end

/-- What is written over what is there, in words of the law. -/
theorem over_size2 (V s : ByteArray) : (s ++ V.extract (min s.size V.size) V.size).size = max s.size V.size := by
  rw [ByteArray.size_append, ByteArray.size_extract]
  omega

theorem app_nil (s : ByteArray) : s ++ (⟨#[]⟩ : ByteArray) = s := by
  apply ba_ext
  simp

/-- Between the writes: the table, the file, what is to be in it. -/
structure OSt (ap : Bool) (Z : FdZ) (T M : Nat) (l : List (Int × Nat)) (b1 : Nat) (k : Nat) (d : Nds) (A V D : ByteArray) : Prop where
  tb : ∃ at' : Int, AS Z T M l b1 ⟨none, 2, at', 6, 1 + (if ap then 0 else k : Nat)⟩ 100 ∧ (ap = false → at' = D.size)
  keys : ∀ x ∈ l, x.1 < 2 + (k : Int)
  one : One d 2 [((⟨#[97]⟩ : ByteArray), (2 : Int))] 384 (1 + (if ap then k else 0 : Nat)) D
  data : D = if ap then V else A
  la : A.size ≤ 100 * k
  lv : V.size ≤ 100
  ms : mass d ≤ 5 + 3 * k

theorem OSt.start {ap : Bool} {Z : FdZ} {T M b : Nat} {d : Nds} (h : AS Z T M [(1, b)] b ⟨none, 2, 0, 6, 1⟩ 100) (ho : One d 2 [((⟨#[97]⟩ : ByteArray), (2 : Int))] 384 1 ⟨#[]⟩) (hm : mass d ≤ 5) :
    OSt ap Z T M [(1, b)] b 0 d ⟨#[]⟩ ⟨#[]⟩ ⟨#[]⟩ :=
  ⟨⟨0, by cases ap <;> exact h, fun _ => rfl⟩, fun x hx => by simp only [List.mem_singleton] at hx; rw [hx]; show (1 : Int) < 2 + ((0 : Nat) : Int); decide, by cases ap <;> exact ho, by cases ap <;> rfl, Nat.zero_le _, Nat.zero_le _, by omega⟩

/-- What the law holds to be written behind s. -/
def nextV (V s : ByteArray) : ByteArray := s ++ V.extract (min s.size V.size) V.size
theorem nextV_nil (V : ByteArray) : nextV V ⟨#[]⟩ = V := by
  unfold nextV
  rw [nil_app, show min (ByteArray.size ⟨#[]⟩) V.size = 0 from Nat.zero_min _, ByteArray.extract_zero_size]
theorem nextV_size (V s : ByteArray) : (nextV V s).size = max s.size V.size := over_size2 V s

section
variable {Z Z' : FdZ} {T M b1 b k : Nat} {l : List (Int × Nat)} {d d' : Nds} {A V D s : ByteArray}

/-- A number more of the same thing. -/
theorem OSt.dup (h : OSt false Z T M l b1 k d A V D) (hk : k < 20) :
    ∃ o : Opn, Z.op b1 = some o ∧ (∀ c oc, Z.op c = some oc → -2305843009213693952 ≤ oc.uses ∧ oc.uses ≤ 2305843009213693952) ∧ kvG (Z.kv T) 1 = some b1 ∧ putF Z d T (2 + (k : Int)) b1 = d ∧
      AS (putZ Z T (2 + (k : Int)) b1) T M (l ++ [(2 + (k : Int), b1)]) b1 ⟨none, 2, (A.size : Int), 6, 2 + (k : Int)⟩ 100 ∧ kvG (l ++ [(2 + (k : Int), b1)]) (2 + (k : Int)) = some b1 := by
  obtain ⟨at', ha, hat⟩ := h.tb
  have hD : D = A := by simpa using h.data
  have hat2 := hat rfl
  rw [hD] at hat2
  subst hat2
  simp only [Bool.false_eq_true, if_false] at ha
  obtain ⟨e1, e2, e3⟩ := ha.dup (n := 2 + (k : Int)) (kvG_keys h.keys) (by show -100 ≤ (1 + (k : Int)) + 1 ∧ (1 + (k : Int)) + 1 ≤ 100; omega) d
  refine ⟨_, ha.op, fun c oc hc => by have := ha.ub c oc hc; omega, by rw [ha.kv]; exact ha.one, e3, ?_, e2⟩
  have : (Opn.mk none 2 (A.size : Int) 6 (1 + (k : Int))).use 1 = ⟨none, 2, (A.size : Int), 6, 2 + (k : Int)⟩ := by
    simp only [Opn.use, Opn.mk.injEq, true_and]
    omega
  rw [this] at e1
  exact e1
theorem OSt.dupped (h : OSt false Z T M l b1 k d A V D) (ha : AS Z' T M (l ++ [(2 + (k : Int), b1)]) b1 ⟨none, 2, ((A ++ s).size : Int), 6, 2 + (k : Int)⟩ 100) (ho : One d' 2 [((⟨#[97]⟩ : ByteArray), (2 : Int))] 384 1 (A ++ s)) (hs : s.size ≤ 100) (hm : mass d' ≤ mass d) :
    OSt false Z' T M (l ++ [(2 + (k : Int), b1)]) b1 (k + 1) d' (A ++ s) (nextV V s) (A ++ s) := by
  refine ⟨⟨_, ?_, fun _ => rfl⟩, fun x hx => ?_, ho, rfl, ?_, ?_, ?_⟩
  · have : (1 + ((k + 1 : Nat) : Int)) = 2 + (k : Int) := by omega
    simp only [Bool.false_eq_true, if_false, this]
    exact ha
  · rcases List.mem_append.1 hx with hx | hx
    · have := h.keys x hx; omega
    · simp only [List.mem_singleton] at hx; rw [hx]; show 2 + (k : Int) < 2 + ((k + 1 : Nat) : Int); omega
  · have := h.la; rw [ByteArray.size_append]; omega
  · rw [nextV_size]; have := h.lv; omega
  · have := h.ms; omega
/-- It is opened once more. -/
theorem OSt.open (h : OSt true Z T M l b1 k d A V D) (hb : b ≠ b1) (hk : k < 20) :
    ∃ o : Opn, (∀ c oc, Z.op c = some oc → -2305843009213693952 ≤ oc.uses ∧ oc.uses ≤ 2305843009213693952) ∧ AS (putZ (addZ Z b ⟨none, 2, 0, 2, 0⟩) T (2 + (k : Int)) b) T M (l ++ [(2 + (k : Int), b)]) b1 o 100 ∧ (o.pipe = none ∧ o.id = 2 ∧ o.flags = 6 ∧ o.uses = 1) ∧
      (putZ (addZ Z b ⟨none, 2, 0, 2, 0⟩) T (2 + (k : Int)) b).op b = some ⟨none, 2, 0, 2, 1⟩ ∧ kvG (l ++ [(2 + (k : Int), b)]) (2 + (k : Int)) = some b ∧ ∀ d, putF (addZ Z b ⟨none, 2, 0, 2, 0⟩) d T (2 + (k : Int)) b = d := by
  obtain ⟨at', ha, _⟩ := h.tb
  simp only [if_true] at ha
  have hx := fun d => ha.opens (b := b) (o := ⟨none, 2, 0, 2, 0⟩) (n := 2 + (k : Int)) (kvG_keys h.keys) hb (by decide) d
  obtain ⟨e1, e2, e3, _⟩ := hx d
  exact ⟨_, fun c oc hc => by have := ha.ub c oc hc; omega, e1, ⟨rfl, rfl, rfl, rfl⟩, e2, e3, fun d => (hx d).2.2.2⟩
theorem OSt.opened (h : OSt true Z T M l b1 k d A V D) {o : Opn} (ha : AS Z' T M (l ++ [(2 + (k : Int), b)]) b1 o 100) (hq : o.pipe = none ∧ o.id = 2 ∧ o.flags = 6 ∧ o.uses = 1) (ho : One d' 2 [((⟨#[97]⟩ : ByteArray), (2 : Int))] 384 (1 + ((k + 1 : Nat) : Int)) (nextV V s)) (hs : s.size ≤ 100) (hm : mass d' ≤ mass d + 3) :
    OSt true Z' T M (l ++ [(2 + (k : Int), b)]) b1 (k + 1) d' (A ++ s) (nextV V s) (nextV V s) := by
  obtain ⟨p, i, a, f, u⟩ := o
  simp only at hq
  obtain ⟨rfl, rfl, rfl, rfl⟩ := hq
  refine ⟨⟨a, ha, fun h => by cases h⟩, fun x hx => ?_, ho, rfl, ?_, ?_, ?_⟩
  · rcases List.mem_append.1 hx with hx | hx
    · have := h.keys x hx; omega
    · simp only [List.mem_singleton] at hx; rw [hx]; show 2 + (k : Int) < 2 + ((k + 1 : Nat) : Int); omega
  · have := h.la; rw [ByteArray.size_append]; omega
  · rw [nextV_size]; have := h.lv; omega
  · have := h.ms; omega

/-- The end: it is opened at 40, to be read. -/
theorem OSt.last {ap : Bool} (h : OSt ap Z T M l b1 k d A V D) (hb : b ≠ b1) (hk : k ≤ 20) :
    (∀ c oc, Z.op c = some oc → -2305843009213693952 ≤ oc.uses ∧ oc.uses ≤ 2305843009213693952) ∧ Z.tm T = some M ∧ (∃ o1 : Opn, kvG (Z.kv T) 1 = some b1 ∧ Z.op b1 = some o1 ∧ o1.pipe = none ∧ o1.id = 2) ∧
      (putZ (addZ Z b ⟨none, 2, 0, 1, 0⟩) T 40 b).tm T = some M ∧ (putZ (addZ Z b ⟨none, 2, 0, 1, 0⟩) T 40 b).op b = some ⟨none, 2, 0, 1, 1⟩ ∧ kvG ((putZ (addZ Z b ⟨none, 2, 0, 1, 0⟩) T 40 b).kv T) 40 = some b ∧ ∀ d, putF (addZ Z b ⟨none, 2, 0, 1, 0⟩) d T 40 b = d := by
  obtain ⟨at', ha, _⟩ := h.tb
  have hx := fun d => ha.opens (b := b) (o := ⟨none, 2, 0, 1, 0⟩) (n := 40) (kvG_keys fun x hx => by have := h.keys x hx; omega) hb (by decide) d
  obtain ⟨e1, e2, e3, _⟩ := hx d
  exact ⟨fun c oc hc => by have := ha.ub c oc hc; omega, ha.tm, ⟨_, by rw [ha.kv]; exact ha.one, ha.op, rfl, rfl⟩, e1.tm, e2, by rw [e1.kv]; exact e3, fun d => (hx d).2.2.2⟩
end

theorem wrt_ok {d : Nds} {room k x calls : Int} {s : ByteArray} (hc : 0 ≤ calls) (he : writeErr d room k x s = 0) : wrtF calls (-1) d room k x s = (writeTo d room k x s, 0) := by
  unfold wrtF orFail callE
  rw [if_neg (by rw [if_neg (by omega)]; simp), he]

theorem cut_whole {D : ByteArray} {n : Int} (h : (D.size : Int) ≤ n) : cut D 0 n = D := by
  unfold cut
  have e1 : min (0 : Int).toNat D.size = 0 := by simp
  have e2 : min n.toNat (D.size - 0) = D.size := by omega
  rw [e1, e2, Nat.zero_add, ByteArray.extract_zero_size]
theorem cut_none {D : ByteArray} {n : Int} : cut D (D.size : Int) n = ⟨#[]⟩ := by
  unfold cut
  have e1 : min (D.size : Int).toNat D.size = D.size := by simp
  rw [e1, Nat.sub_self, Nat.min_zero, Nat.add_zero]
  exact ext_none D D.size (Nat.le_refl _)

end Go.Proofs.YtbmalnllppamdaaGreatDoor
