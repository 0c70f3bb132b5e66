/-
  The walk of DiskWrites.
-/
import Derived.Test.YtbcejodnjeklpaaLaw4
namespace Go.Proofs.Ytbcejodnjeklpaa
open Go.RowKit
set_option maxRecDepth 100000
set_option maxHeartbeats 4000000

def oneD (s : ByteArray) : Nds := [Nd.gone, rootNd, newNd 1 0 s]
def wantTo (want : ByteArray) (x : Nat) (s : ByteArray) : ByteArray := if s.size = 0 then want else over (want ++ noughts (max want.size (x + s.size) - want.size)) x s

theorem one_make : makeErr newD 65536 1 0 ⟨#[]⟩ = 0 := by decide +kernel
theorem one_used (s : ByteArray) : used (oneD s) = s.size := by
  rw [show oneD s = newD ++ [newNd 1 0 s] from rfl, used_append, used_new]
  unfold room1 newNd
  simp [entSize]
theorem one_nd (s : ByteArray) : nd (oneD s) 2 = newNd 1 0 s := rfl

theorem one_c1 {W w : World} {a : Nat} (h : HereTo W w a newD 65536) : Calls Try.prog 10 #[.pointer (some ⟨a, 0, none⟩), .int .i64 1, .int .i64 0, .string ⟨#[]⟩] w fun e w' => e = .returned (.tuple #[.int .i64 2, .int .i64 0]) ∧ HereTo W w' a (oneD ⟨#[]⟩) 65536 := by
  obtain ⟨R, h⟩ := h
  refine (makeD_any h.disk 1 0 ⟨#[]⟩ (by decide) (by decide)).mono fun e w' ⟨h1, h2⟩ => ?_
  have e1 : makeId newD 65536 1 0 ⟨#[]⟩ = 2 := by unfold makeId; rw [if_pos one_make]; rfl
  have e2 : makeTo newD 65536 1 0 ⟨#[]⟩ = oneD ⟨#[]⟩ := by unfold makeTo; rw [if_pos one_make]; rfl
  rw [e1, one_make] at h1
  rw [e2] at h2
  exact ⟨h1, h.to h2⟩

theorem one_write {W w0 w : World} {a : Nat} {want s : ByteArray} {x : Int} (h : HereTo W w0 a (oneD want) 65536) (k : Keeps NoB w0 w) (hw : want.size ≤ 600) (hx : 0 ≤ x) (hx2 : x ≤ 500) (hs : s.size ≤ 100) :
    Calls Try.prog 11 #[.pointer (some ⟨a, 0, none⟩), .int .i64 2, .int .i64 x, .string s] w fun e w' => e = .returned (.int .i64 0) ∧ HereTo W w' a (oneD (wantTo want x.toNat s)) 65536 ∧ Keeps (fun g => g < w0.heap.size) w w' := by
  obtain ⟨R, h⟩ := h
  have he : writeErr (oneD want) 65536 2 x s = 0 := by
    unfold writeErr
    have e1 : fileErr (oneD want) 2 = 0 := rfl
    rw [if_neg (by simpa using e1), if_neg (by omega)]
    by_cases h0 : s.size = 0
    · rw [if_pos h0]
    · rw [if_neg h0, if_neg (by omega), if_neg (by omega), if_neg]
      rw [one_used]
      unfold endOf
      rw [one_nd]
      show ¬ (65536 - (want.size : Int) < ((max want.size (x.toNat + s.size) : Nat) : Int) - (want.size : Int))
      omega
  refine (writeD_any (h.on k).disk 2 x s (by omega)).mono fun e w' ⟨h1, h2⟩ => ?_
  rw [he] at h1
  have e2 : writeTo (oneD want) 65536 2 x s = oneD (wantTo want x.toNat s) := by
    unfold writeTo wantTo
    by_cases h0 : s.size = 0
    · rw [if_neg (fun h => h.2 h0), if_pos h0]
    · rw [if_pos ⟨he, h0⟩, if_neg h0]; rfl
  rw [e2] at h2
  exact ⟨h1, h.call k h2⟩

theorem one_data {W w : World} {a : Nat} {want : ByteArray} (h : HereTo W w a (oneD want) 65536) : Calls Try.prog 12 #[.pointer (some ⟨a, 0, none⟩), .int .i64 2] w fun e w' => e = .returned (.tuple #[.string want, .int .i64 0]) ∧ w = w' := by
  obtain ⟨R, h⟩ := h
  obtain ⟨⟨lk, up, hC⟩, _, _, _⟩ := h.disk
  exact data_any hC.rep 2

theorem wantTo_size {want s : ByteArray} {x : Nat} (h : want.size ≤ 600) (hx : x ≤ 500) (hs : s.size ≤ 100) : (wantTo want x s).size ≤ 600 := by
  unfold wantTo
  split
  · exact h
  · have h1 : (want ++ noughts (max want.size (x + s.size) - want.size)).size = max want.size (x + s.size) := by rw [ByteArray.size_append, noughts_size]; omega
    rw [over_size (by rw [h1]; omega), h1]; omega

theorem noughts_snoc (want : ByteArray) (k : Nat) : want ++ noughts k ++ ⟨#[0]⟩ = want ++ noughts (k + 1) := by
  apply ByteArray.ext
  simp [noughts, Array.replicate_succ]

theorem over_extract {s t : ByteArray} {x : Nat} (h : x + t.size ≤ s.size) : s.extract 0 x ++ t ++ s.extract (x + t.size) s.size = over s x t := by
  apply ByteArray.ext
  apply Array.toList_inj.1
  simp [over]
  exact List.take_of_length_le (by rw [List.length_drop, ← Lib.size_eq]; exact Nat.le_refl _)

/-- A variable laid behind a disk keeps what it holds through a call of the disk. -/
theorem own_var {wr w4 : World} {cs : Array Value} {T : TypeId} (hk : Keeps (fun g => g < wr.heap.size) (wr.alloc (.cells cs T)) w4) (j : Nat) (v : Value) (hv : cs[j]? = some v) : w4.cell? ⟨wr.heap.size, j, none⟩ = some v := by
  have hn := heap_alloc_new wr (.cells cs T)
  have h4 := (hk.block wr.heap.size (by simp) (by omega)).trans hn
  rw [cell_of_row w4 _ j _ T (0, 0) h4]
  exact hv

theorem writes_any (W : World) (p : Option Addr) (c : Nat) (ops : List Op4) (h : SlAt encOp4 (fun g => g < W.heap.size) W p c ops) (hmo : ∀ o ∈ ops, o.s.size ≤ maxLen ∧ o.t.size ≤ maxLen) :
    Calls Try.prog 3 #[.slice p ops.length c] W fun e w' => TrueEnd W w' e := by
  have hcap := h.cap
  have hmax := h.max
  have Hmo := Lib.hid hmo
  clear hmo
  unfold maxLen at hmax
  by_cases h1 : 40 < ops.length
  · go_enter Try.func3, Try.ntmps3
    go_wp2_with (go_at_call 8; refine (anchor4_any _).mono ?_; rintro e w1 ⟨rfl, hk1⟩)
    go_ret
    exact ⟨rfl, hk1⟩
  · go_enter Try.func3, Try.ntmps3
    go_wp2_with (first | (go_at_call 8; refine (anchor4_any _).mono ?_; rintro e w1 ⟨rfl, hk1⟩) | (go_at_call 9; refine (new_ok _ 65536 (by decide) (by decide)).mono ?_; rintro e w2 ⟨a, rfl, h2⟩) | (go_at_call 10; refine (one_c1 h2).mono ?_; rintro e w3 ⟨rfl, h3⟩))
    have h3 := h3.base hk1
    clear h2
    go_loopw [7, 34] (fun s i wr => ∃ (k : Nat) (want : ByteArray), k ≤ ops.length ∧ i = .int .i64 k ∧ s = .string want ∧ want.size ≤ 600 ∧ HereTo W wr a (oneD want) 65536) (fun _ i _ => ops.length - (intOf i).toNat)
    case atStart => exact ⟨0, ⟨#[]⟩, Nat.zero_le _, rfl, rfl, by decide, h3⟩
    case round =>
      rename_i wr
      obtain ⟨k, want, hk, rfl, rfl, hws, hH⟩ := hrel
      have HH := Lib.hid hH
      have HK := Lib.hid hH.keeps
      clear hH h3 hk1
      by_cases hlt : k < ops.length
      · obtain ⟨o, hx⟩ : ∃ o, ops[k]? = some o := ⟨_, List.getElem?_eq_getElem hlt⟩
        obtain ⟨g, off, rfl, hS, hg, c0, c1, c2, c3, c4⟩ := (h.keepN HK.out).op4 hx
        have ho := Lib.hid (Hmo.out o (List.mem_of_getElem? hx))
        clear hx
        have hal : Keeps NoB wr (wr.alloc (.cells #[.int .i64 o.kind, .int .i64 o.a, .int .i64 o.b, .string o.s, .string o.t] 31)) := (Keeps.refl _ _).alloc _
        by_cases d1 : o.b < 0
        · go_wp2
          go_ret
          exact ⟨rfl, HK.out.alloc _⟩
        by_cases d2 : 500 < o.b
        · go_wp2
          go_ret
          exact ⟨rfl, HK.out.alloc _⟩
        by_cases d3 : 100 < o.s.size
        · go_wp2
          go_ret
          exact ⟨rfl, HK.out.alloc _⟩
        have hwr := Lib.hid (one_write HH.out hal hws (by omega) (by omega) (by omega) (x := o.b) (s := o.s))
        go_wp2_with (fail)
        refine hwr.out.mono ?_
        rintro e w4 ⟨rfl, hH4, hk4⟩
        have b2 : w4.cell? ⟨wr.heap.size, 2, none⟩ = some (.int .i64 o.b) := own_var hk4 2 _ rfl
        have b3 : w4.cell? ⟨wr.heap.size, 3, none⟩ = some (.string o.s) := own_var hk4 3 _ rfl
        have hH4' := Lib.hid hH4
        obtain ⟨X, hX⟩ : ∃ X : Nat, o.b = (X : Int) := ⟨o.b.toNat, by omega⟩
        rw [hX, Int.toNat_natCast] at hH4'
        rw [hX] at b2
        have hX5 : X ≤ 500 := by omega
        have hsz := wantTo_size (s := o.s) hws hX5 (by omega)
        clear hH4 hwr hal c0 c1 c2 c3 c4
        by_cases e0 : o.s.size = 0
        · have hs0 : o.s = ⟨#[]⟩ := ByteArray.ext (Array.eq_empty_of_size_eq_zero e0)
          have hw0 : wantTo want X o.s = want := if_pos e0
          rw [hw0] at hH4'
          rw [hs0] at b3
          go_wp2
          go_roundw
          case rel => exact ⟨k + 1, want, by omega, by go_num, rfl, hws, hH4'.out⟩
          case measure => simp [intOf]; omega
        · have hne : (o.s.toList == []) = false := beq_false_of_ne (fun e => e0 ((toList_nil o.s).1 e))
          have hw1 : wantTo want X o.s = over (want ++ noughts (max want.size (X + o.s.size) - want.size)) X o.s := if_neg e0
          rw [hw1] at hH4' hsz
          have hsn := Lib.hid (noughts_snoc want)
          have hex := Lib.hid (fun h => over_extract (s := want ++ noughts (max want.size (X + o.s.size) - want.size)) (t := o.s) (x := X) h)
          clear hw1 hk4
          go_wp2
          clear hne
          go_loopw [7] (fun s wx => ∃ i : Nat, s = .string (want ++ noughts i) ∧ i ≤ max want.size (X + o.s.size) - want.size ∧ wx = w4) (fun s _ => match s with | .string t => 700 - t.size | _ => 0)
          case atStart => exact ⟨0, by rw [show want ++ noughts 0 = want from by apply ByteArray.ext; simp [noughts]], Nat.zero_le _, rfl⟩
          case round =>
            obtain ⟨i, rfl, hi, rfl⟩ := hrel
            have hsi : (want ++ noughts i).size = want.size + i := by rw [ByteArray.size_append, noughts_size]
            have hsn1 := hsn.out i
            by_cases hlt : i < max want.size (X + o.s.size) - want.size
            · have hc : ((want ++ noughts i).size : Int) < (X : Int) + (o.s.size : Int) := by rw [hsi]; omega
              go_wp2
              go_roundw
              case rel => exact ⟨i + 1, by rw [← hsn1], by omega, trivial⟩
              case measure => simp only [ByteArray.size_append, noughts_size]; omega
            · have hi2 : i = max want.size (X + o.s.size) - want.size := by omega
              subst hi2
              have hc1 : (X : Int) + (o.s.size : Int) ≤ ((want ++ noughts (max want.size (X + o.s.size) - want.size)).size : Int) := by rw [hsi]; omega
              have hc2 : ((want ++ noughts (max want.size (X + o.s.size) - want.size)).size : Int) ≤ 600 := by rw [hsi]; omega
              clear hsn1 hsi hi hlt
              generalize want ++ noughts (max want.size (X + o.s.size) - want.size) = big at *
              go_wp2
              go_quiet (fail)
              go_wp2
              go_roundw
              case rel =>
                have hx := hex.out (by omega)
                have e1 : ((X : Int) + (o.s.size : Int)).toNat = X + o.s.size := by omega
                refine ⟨k + 1, over big X o.s, by omega, by go_num, ?_, hsz, hH4'.out.on ((Keeps.refl _ _).drewN _)⟩
                rw [← hx]
              case measure => simp [intOf]; omega
      · obtain rfl : k = ops.length := by omega
        have hu := one_used want
        have huse := usedH_any HH.out
        rw [hu] at huse
        have hdat := one_data HH.out
        have hbb : (want.toList == want.toList) = true := by rw [toList_eq]; simp
        clear h3 hu
        go_wp2_with (first | (go_at_call 12; refine hdat.mono ?_; rintro e w5 ⟨rfl, rfl⟩) | (go_at_call 13; refine huse.mono ?_; rintro e w6 ⟨rfl, rfl⟩))
        go_ret
        exact ⟨rfl, HK.out⟩

end Go.Proofs.Ytbcejodnjeklpaa
