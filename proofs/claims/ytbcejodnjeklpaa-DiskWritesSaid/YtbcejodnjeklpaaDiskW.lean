/-
  Contracts of package disk, the first part: what only reads.
-/
import Derived.Test.YtbcejodnjeklpaaDiskR2
import Derived.Test.YtbcejodnjeklpaaRef3W2
import Derived.BigQuiet
import Derived.Deep.QuietTactic
namespace Go.Proofs.Ytbcejodnjeklpaa
open Go.RowKit
set_option maxRecDepth 100000
set_option maxHeartbeats 1000000

section
variable {R : RD} {w : World} {a : Nat} {d : Nds} {room us : Int} {lk up : Int → Int}

def folderErr (d : Nds) (i : Int) : Int := if (nd d i).kind = 0 then 12 else if (nd d i).kind = 2 then 0 else 14
def fileErr (d : Nds) (i : Int) : Int := if (nd d i).kind = 0 then 12 else if (nd d i).kind = 2 then 15 else if (nd d i).kind = 1 then 0 else 43
def dataErr (d : Nds) (i : Int) : Int := if (nd d i).kind = 0 then 12 else if (nd d i).kind = 2 then 15 else 0
def dataOf (d : Nds) (i : Int) : ByteArray := if (nd d i).kind = 0 then ⟨#[]⟩ else if (nd d i).kind = 2 then ⟨#[]⟩ else (nd d i).data
def ptrIf (R : RD) (e i : Int) : Value := if e = 0 then .pointer (some ⟨R.g i, 0, none⟩) else .pointer none
def okMode (m : Int) : Bool := decide (0 ≤ m) && decide (m ≤ 4095)

theorem not_has {d : Nds} {i : Int} (h : ¬ has d i) : (nd d i).kind = 0 := by simpa [has] using h

theorem folder_any (h : Rep R w a d room us lk up) (i : Int) :
    Calls Try.prog 56 #[.pointer (some ⟨a, 0, none⟩), .int .i64 i] w fun e w' => e = .returned (.tuple #[ptrIf R (folderErr d i) i, .int .i64 (folderErr d i)]) ∧ w = w' := by
  have hl := h.l
  have hlook := h.look i
  unfold nodeV at hlook
  unfold folderErr
  by_cases hi : has d i
  · rw [if_pos hi] at hlook
    have hk := (h.node i hi).kind
    have hi0 : ¬ (nd d i).kind = 0 := hi
    rw [if_neg hi0]
    generalize (nd d i).kind = kd at hk
    by_cases h2 : kd = 2
    · rw [if_pos h2]
      subst h2
      go_enter Try.func56, Try.ntmps56
      go_wp2
      go_ret2
      exact ⟨rfl, rfl⟩
    · rw [if_neg h2]
      go_enter Try.func56, Try.ntmps56
      go_wp2
      go_ret2
      exact ⟨rfl, rfl⟩
  · rw [if_neg hi] at hlook
    rw [if_pos (not_has hi)]
    go_enter Try.func56, Try.ntmps56
    go_wp2
    go_ret2
    exact ⟨rfl, rfl⟩

theorem file_any (h : Rep R w a d room us lk up) (i : Int) :
    Calls Try.prog 37 #[.pointer (some ⟨a, 0, none⟩), .int .i64 i] w fun e w' => e = .returned (.tuple #[ptrIf R (fileErr d i) i, .int .i64 (fileErr d i)]) ∧ w = w' := by
  have hl := h.l
  have hlook := h.look i
  unfold nodeV at hlook
  unfold fileErr
  by_cases hi : has d i
  · rw [if_pos hi] at hlook
    have hk := (h.node i hi).kind
    have hi0 : ¬ (nd d i).kind = 0 := hi
    rw [if_neg hi0]
    generalize (nd d i).kind = kd at hk
    by_cases h2 : kd = 2
    · rw [if_pos h2]
      subst h2
      go_enter Try.func37, Try.ntmps37
      go_wp2
      go_ret2
      exact ⟨rfl, rfl⟩
    · rw [if_neg h2]
      by_cases h1 : kd = 1
      · rw [if_pos h1]
        subst h1
        go_enter Try.func37, Try.ntmps37
        go_wp2
        go_ret2
        exact ⟨rfl, rfl⟩
      · rw [if_neg h1]
        go_enter Try.func37, Try.ntmps37
        go_wp2
        go_ret2
        exact ⟨rfl, rfl⟩
  · rw [if_neg hi] at hlook
    rw [if_pos (not_has hi)]
    go_enter Try.func37, Try.ntmps37
    go_wp2
    go_ret2
    exact ⟨rfl, rfl⟩

theorem right_any (m : Int) (w : World) : Calls Try.prog 35 #[.int .i64 m] w fun e w' => e = .returned (.bool (okMode m)) ∧ w = w' := by
  go_enter Try.func35, Try.ntmps35
  go_wp2
  all_goals
    go_ret
    exact ⟨ret_bool (by simp [okMode, *] <;> omega), rfl⟩

theorem used_any (h : Rep R w a d room us lk up) : Calls Try.prog 13 #[.pointer (some ⟨a, 0, none⟩)] w fun e w' => e = .returned (.int .i64 us) ∧ w = w' := by
  have hl := h.used
  go_enter Try.func13, Try.ntmps13
  go_wp2
  go_ret
  exact ⟨rfl, rfl⟩

theorem room_any (h : Rep R w a d room us lk up) : Calls Try.prog 33 #[.pointer (some ⟨a, 0, none⟩)] w fun e w' => e = .returned (.int .i64 room) ∧ w = w' := by
  have hl := h.room
  go_enter Try.func33, Try.ntmps33
  go_wp2
  go_ret
  exact ⟨rfl, rfl⟩

theorem count_any (h : Rep R w a d room us lk up) : Calls Try.prog 23 #[.pointer (some ⟨a, 0, none⟩)] w fun e w' => e = .returned (goInt (count d)) ∧ w = w' := by
  have hl := h.l
  have hlen := h.map.len (P := Try.prog) Try.underlying68 3
  rw [h.len] at hlen
  go_enter Try.func23, Try.ntmps23
  go_wp2
  go_ret
  exact ⟨rfl, rfl⟩

theorem data_any (h : Rep R w a d room us lk up) (i : Int) :
    Calls Try.prog 12 #[.pointer (some ⟨a, 0, none⟩), .int .i64 i] w fun e w' => e = .returned (.tuple #[.string (dataOf d i), .int .i64 (dataErr d i)]) ∧ w = w' := by
  have hl := h.l
  have hlook := h.look i
  unfold nodeV at hlook
  unfold dataErr dataOf
  by_cases hi : has d i
  · rw [if_pos hi] at hlook
    have hn := h.node i hi
    have hk := hn.kind
    have hd := hn.data
    have hconv := hn.own.str (P := Try.prog) 72 9 5 Try.underlying72 Try.underlying5 Try.underlying9
    have hi0 : ¬ (nd d i).kind = 0 := hi
    rw [if_neg hi0, if_neg hi0]
    obtain ⟨p, cap, hv⟩ := hn.own.form
    rw [hv] at hd hconv
    generalize (nd d i).data = s at hd hconv
    generalize (nd d i).kind = kd at hk
    by_cases h2 : kd = 2
    · rw [if_pos h2, if_pos h2]
      subst h2
      go_enter Try.func12, Try.ntmps12
      go_wp2
      go_ret2
      exact ⟨rfl, rfl⟩
    · rw [if_neg h2, if_neg h2]
      go_enter Try.func12, Try.ntmps12
      go_wp2
      go_ret2
      exact ⟨rfl, rfl⟩
  · rw [if_neg hi] at hlook
    rw [if_pos (not_has hi), if_pos (not_has hi)]
    go_enter Try.func12, Try.ntmps12
    go_wp2
    go_ret2
    exact ⟨rfl, rfl⟩

def lookErr (d : Nds) (i : Int) (name : ByteArray) : Int := if folderErr d i ≠ 0 then folderErr d i else if (entGet (nd d i).ents name).isSome then 0 else 12
def lookOf (d : Nds) (i : Int) (name : ByteArray) : Int := if folderErr d i ≠ 0 then 0 else (entGet (nd d i).ents name).getD 0

theorem folderErr_zero {d : Nds} {i : Int} (h : folderErr d i = 0) : has d i ∧ (nd d i).kind = 2 := by
  unfold folderErr at h
  split at h
  · cases h
  · next h0 =>
    split at h
    · next h2 => exact ⟨h0, h2⟩
    · cases h

theorem look_any (h : Rep R w a d room us lk up) (i : Int) (name : ByteArray) (hn : (nd d i).ents.length < 4294967295) :
    Calls Try.prog 26 #[.pointer (some ⟨a, 0, none⟩), .int .i64 i, .string name] w fun e w' => e = .returned (.tuple #[.int .i64 (lookOf d i name), .int .i64 (lookErr d i name)]) ∧ Keeps NoB w w' := by
  have hf := folder_any h i
  unfold lookOf lookErr
  by_cases he : folderErr d i = 0
  · have hi := (folderErr_zero he).1
    have hget := get_any (fun _ => True) w ⟨R.g i, 5, none⟩ (R.ev i) (nd d i).ents name ((h.node i hi).dir.any (fun _ _ => trivial)) (by omega)
    rw [he] at hf ⊢
    have hp : ptrIf R 0 i = .pointer (some ⟨R.g i, 0, none⟩) := rfl
    rw [hp] at hf
    cases hg : entGet (nd d i).ents name with
    | none =>
      rw [hg] at hget
      go_enter Try.func26, Try.ntmps26
      go_wp2_with (first | (go_at_call 56; refine hf.mono ?_; rintro e w1 ⟨rfl, rfl⟩) | (go_at_call 57; refine hget.mono ?_; rintro e w1 ⟨rfl, hk⟩))
      go_ret2
      exact ⟨rfl, hk⟩
    | some k =>
      rw [hg] at hget
      go_enter Try.func26, Try.ntmps26
      go_wp2_with (first | (go_at_call 56; refine hf.mono ?_; rintro e w1 ⟨rfl, rfl⟩) | (go_at_call 57; refine hget.mono ?_; rintro e w1 ⟨rfl, hk⟩))
      go_ret2
      exact ⟨rfl, hk⟩
  · simp only [ne_eq, he, not_false_eq_true, if_true]
    have hp : ptrIf R (folderErr d i) i = .pointer none := if_neg he
    rw [hp] at hf
    generalize folderErr d i = er at hf he
    go_enter Try.func26, Try.ntmps26
    go_wp2_with (go_at_call 56; refine hf.mono ?_; rintro e w1 ⟨rfl, rfl⟩)
    go_ret2
    exact ⟨rfl, Keeps.refl _ _⟩

theorem listD_any (h : Rep R w a d room us lk up) (i : Int) (hn : (nd d i).ents.length < 4294967295) :
    Calls Try.prog 68 #[.pointer (some ⟨a, 0, none⟩), .int .i64 i] w fun e w' => ∃ v, e = .returned (.tuple #[v, .int .i64 (folderErr d i)]) ∧ Own encEnt 107 (fun g => w.heap.size ≤ g) w' v (if folderErr d i = 0 then (nd d i).ents else []) ∧ Keeps NoB w w' := by
  have hf := folder_any h i
  by_cases he : folderErr d i = 0
  · have hi := (folderErr_zero he).1
    have hlist := list_any (fun _ => True) w ⟨R.g i, 5, none⟩ (R.ev i) (nd d i).ents ((h.node i hi).dir.any (fun _ _ => trivial)) (by omega)
    rw [he] at hf ⊢
    rw [if_pos rfl]
    have hp : ptrIf R 0 i = .pointer (some ⟨R.g i, 0, none⟩) := rfl
    rw [hp] at hf
    go_enter Try.func68, Try.ntmps68
    go_wp2_with (first | (go_at_call 56; refine hf.mono ?_; rintro e w1 ⟨rfl, rfl⟩) | (go_at_call 75; refine hlist.mono ?_; rintro e w1 ⟨v, rfl, ho, hk⟩))
    go_ret2
    exact ⟨v, rfl, ho, hk⟩
  · rw [if_neg he]
    have hp : ptrIf R (folderErr d i) i = .pointer none := if_neg he
    rw [hp] at hf
    generalize folderErr d i = er at hf he
    go_enter Try.func68, Try.ntmps68
    go_wp2_with (go_at_call 56; refine hf.mono ?_; rintro e w1 ⟨rfl, rfl⟩)
    go_ret2
    exact ⟨_, rfl, Own.nil _ _ _ _, Keeps.refl _ _⟩

theorem up_any (h : Rep R w a d room us lk up) (i : Int) :
    Calls Try.prog 69 #[.pointer (some ⟨a, 0, none⟩), .int .i64 i] w fun e w' => e = .returned (.tuple #[.int .i64 (if folderErr d i = 0 then up i else 0), .int .i64 (folderErr d i)]) ∧ w = w' := by
  have hf := folder_any h i
  by_cases he : folderErr d i = 0
  · have hi := (folderErr_zero he).1
    have hu := (h.node i hi).up
    rw [he] at hf ⊢
    rw [if_pos rfl]
    have hp : ptrIf R 0 i = .pointer (some ⟨R.g i, 0, none⟩) := rfl
    rw [hp] at hf
    go_enter Try.func69, Try.ntmps69
    go_wp2_with (go_at_call 56; refine hf.mono ?_; rintro e w1 ⟨rfl, rfl⟩)
    go_ret2
    exact ⟨rfl, rfl⟩
  · rw [if_neg he]
    have hp : ptrIf R (folderErr d i) i = .pointer none := if_neg he
    rw [hp] at hf
    generalize folderErr d i = er at hf he
    go_enter Try.func69, Try.ntmps69
    go_wp2_with (go_at_call 56; refine hf.mono ?_; rintro e w1 ⟨rfl, rfl⟩)
    go_ret2
    exact ⟨rfl, rfl⟩

end

end Go.Proofs.Ytbcejodnjeklpaa
