/-
  The plain laws of paths: what stands between slashes, joining, ends. No program in sight.
-/
import Derived.Test.YtokpmakhhhlbkaaDoorB03
import Derived.Lib.SplitLaws

set_option linter.unusedSimpArgs false
set_option linter.unusedVariables false

set_option maxRecDepth 100000
namespace Go.Proofs.YtokpmakhhhlbkaaDoor

/-- The slash. -/
abbrev slashB : ByteArray := ⟨#[47]⟩

/-- What stands ahead of, between and behind slashes. -/
def pcsL : List UInt8 → List (List UInt8)
  | [] => [[]]
  | c :: s => if c = 47 then [] :: pcsL s else match pcsL s with
    | [] => [[c]]
    | p :: r => (c :: p) :: r

theorem pcsL_ne : ∀ s, pcsL s ≠ []
  | [] => by simp [pcsL]
  | c :: s => by
    unfold pcsL
    split
    · simp
    · split <;> simp

theorem pcsL_none : ∀ s : List UInt8, (∀ c ∈ s, ¬ c = 47) → pcsL s = [s]
  | [], _ => rfl
  | c :: s, h => by
    unfold pcsL
    rw [if_neg (h c (by simp)), pcsL_none s (fun x hx => h x (by simp [hx]))]

theorem pcsL_cut : ∀ (p s : List UInt8), (∀ c ∈ p, ¬ c = 47) → pcsL (p ++ 47 :: s) = p :: pcsL s
  | [], s, _ => by simp [pcsL]
  | c :: p, s, h => by
    show pcsL (c :: (p ++ 47 :: s)) = _
    rw [pcsL, if_neg (h c (by simp)), pcsL_cut p s (fun x hx => h x (by simp [hx]))]

def ofL (l : List UInt8) : ByteArray := ⟨l.toArray⟩
theorem ofL_data (s : ByteArray) : ofL s.data.toList = s := by cases s; simp [ofL]
theorem ofL_toList (l : List UInt8) : (ofL l).data.toList = l := by simp [ofL]
theorem len_data (s : ByteArray) : s.data.toList.length = s.size := (Lib.size_eq s).symm
theorem data_extract (s : ByteArray) (i j : Nat) : (s.extract i j).data.toList = (s.data.toList.take j).drop i := by
  rw [Lib.extract_data, List.drop_take]

/-- The pieces of a text. -/
def pcs (s : ByteArray) : List ByteArray := (pcsL s.data.toList).map ofL
/-- A path's parts. -/
def prts (s : ByteArray) : List ByteArray := (pcs s).filter fun p => !decide (p = ⟨#[]⟩)

theorem pcs_none (s : ByteArray) (f : Nat) (hf : f ≤ s.size) (h : ∀ (j : Nat) (hj : j < s.size), f ≤ j → ¬ s[j] = 47) : pcs (s.extract f s.size) = [s.extract f s.size] := by
  unfold pcs
  rw [pcsL_none]
  · rw [List.map_cons, List.map_nil, ofL_data]
  · intro c hc
    rw [data_extract] at hc
    obtain ⟨k, hk, e⟩ := List.mem_iff_getElem.1 hc
    simp only [List.getElem_drop, List.getElem_take] at e
    simp only [List.length_drop, List.length_take] at hk
    have h2 : f + k < s.size := by omega
    have := h (f + k) h2 (by omega)
    rw [← e]
    exact this

theorem pcs_cut (s : ByteArray) (f k : Nat) (hf : f ≤ k) (hk : k < s.size) (hc : s[k] = 47) (h : ∀ (j : Nat) (hj : j < s.size), f ≤ j → j < k → ¬ s[j] = 47) :
    pcs (s.extract f s.size) = s.extract f k :: pcs (s.extract (k + 1) s.size) := by
  have hl : s.data.toList.length = s.size := len_data s
  have e : (s.extract f s.size).data.toList = (s.extract f k).data.toList ++ 47 :: (s.extract (k + 1) s.size).data.toList := by
    rw [data_extract, data_extract, data_extract, List.take_of_length_le (by omega)]
    apply List.ext_getElem?
    intro i
    by_cases hi : i < k - f
    · rw [List.getElem?_append_left (by simp; omega)]
      simp only [List.getElem?_drop, List.getElem?_take]
      rw [if_pos (by omega)]
    · rw [List.getElem?_append_right (by simp; omega)]
      have e2 : ((s.data.toList.take k).drop f).length = k - f := by simp; omega
      rw [e2]
      by_cases hj : i - (k - f) = 0
      · rw [hj, List.getElem?_cons_zero, List.getElem?_drop, show f + i = k by omega, List.getElem?_eq_getElem (by omega)]
        rw [← hc]; rfl
      · obtain ⟨n, hn⟩ : ∃ n, i - (k - f) = n + 1 := ⟨i - (k - f) - 1, by omega⟩
        rw [hn, List.getElem?_cons_succ, List.getElem?_drop, List.getElem?_drop]
        congr 1
        omega
  unfold pcs
  rw [e, pcsL_cut]
  · rw [List.map_cons, ofL_data]
  · intro c hc
    rw [data_extract] at hc
    obtain ⟨n, hn, e⟩ := List.mem_iff_getElem.1 hc
    simp only [List.getElem_drop, List.getElem_take] at e
    simp only [List.length_drop, List.length_take] at hn
    have h2 : f + n < s.size := by omega
    rw [← e]
    exact h (f + n) h2 (by omega) (by omega)

theorem extract_all (s : ByteArray) : s.extract 0 s.size = s := by
  apply eq_of_data
  rw [data_extract, List.drop_zero, List.take_of_length_le (by rw [len_data]; exact Nat.le_refl _)]

/-- The length of a piece. -/
theorem pcs_size (s : ByteArray) : ∀ p ∈ pcs s, p.size ≤ s.size := by
  have key : ∀ l : List UInt8, ∀ p ∈ pcsL l, p.length ≤ l.length := by
    intro l
    induction l with
    | nil => intro p hp; simp [pcsL] at hp; subst hp; simp
    | cons c l ih =>
      intro p hp
      unfold pcsL at hp
      split at hp
      · rcases List.mem_cons.1 hp with h | h
        · subst h; simp
        · have := ih p h; simp; omega
      · cases h : pcsL l with
        | nil => exact absurd h (pcsL_ne l)
        | cons q r =>
          rw [h] at hp ih
          rcases List.mem_cons.1 hp with h2 | h2
          · subst h2; have := ih q (by simp); simp; omega
          · have := ih p (by simp [h2]); simp; omega
  intro p hp
  obtain ⟨l, hl, rfl⟩ := List.mem_map.1 hp
  have := key _ l hl
  rw [← len_data (ofL l), ofL_toList]
  rwa [len_data] at this

theorem pcs_length (s : ByteArray) : (pcs s).length ≤ s.size + 1 := by
  have key : ∀ l : List UInt8, (pcsL l).length ≤ l.length + 1 := by
    intro l
    induction l with
    | nil => simp [pcsL]
    | cons c l ih =>
      unfold pcsL
      split
      · simp; omega
      · split
        · simp
        · rename_i q r h; rw [h] at ih; simp at ih ⊢; omega
  have := key s.data.toList
  rw [len_data] at this
  rw [pcs, List.length_map]
  exact this

theorem prts_length (s : ByteArray) : (prts s).length ≤ s.size + 1 := Nat.le_trans (List.length_filter_le _ _) (pcs_length s)
theorem prts_size (s : ByteArray) : ∀ p ∈ prts s, p.size ≤ s.size := fun p hp => pcs_size s p (List.mem_filter.1 hp).1
theorem prts_ne (s : ByteArray) : ∀ p ∈ prts s, ¬ p = ⟨#[]⟩ := fun p hp => by simpa using (List.mem_filter.1 hp).2

/-- The last byte is a slash. -/
def endS (s : ByteArray) : Bool := decide (0 < s.size ∧ s.data.toList[s.size - 1]? = some 47)
/-- A path within another one. -/
def joinB (d n : ByteArray) : ByteArray := if d = ⟨#[]⟩ then n else if endS d then d ++ n else d ++ slashB ++ n
/-- Is a path absolute? -/
def absB (s : ByteArray) : Bool := decide (s.data.toList[0]? = some 47)

end Go.Proofs.YtokpmakhhhlbkaaDoor
