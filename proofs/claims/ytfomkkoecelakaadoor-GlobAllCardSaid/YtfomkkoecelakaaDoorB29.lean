/-
  Contracts of package walk: step whole, rest, end.
-/
import Derived.Test.YtfomkkoecelakaaDoorB28

set_option linter.unusedSimpArgs false
set_option linter.unusedVariables false

set_option maxRecDepth 100000
set_option maxHeartbeats 2000000
namespace Go.Proofs.YtfomkkoecelakaaDoor
open Go Go.RowKit

section
variable {R : RD} {w0 w w' : World} {a g : Nat} {d : Nds} {room us : Int} {lk up : Int → Int}

theorem step_any (h : Rep R w0 a d room us lk up) (k : Keeps NoB w0 w) (hgw : w0.heap.size ≤ g) {at' : Int} {n : Nat} (hw : Wkr w g a at' n) (hI : DInv d) (hs : smallD d) (x : ByteArray) (follow : Bool) (hn : n ≤ 40) :
    Calls Tryd.prog 44 #[.pointer (some ⟨g, 0, none⟩), .string x, .bool follow] w (StepTo w g a at' (stepR d up at' x follow n)) := by
  by_cases h0 : intoErr d at' ≠ 0
  · have : stepR d up at' x follow n = ⟨.no, ⟨#[]⟩, intoErr d at', n⟩ := by unfold stepR; rw [if_pos h0]
    rw [this]
    exact step_into h k hw hI x follow h0
  · have hin : intoErr d at' = 0 := by simpa using h0
    by_cases h1 : x = dotB
    · have : stepR d up at' x follow n = ⟨.on at', ⟨#[]⟩, 0, n⟩ := by unfold stepR; rw [if_neg h0, if_pos h1]
      rw [this, h1]
      exact step_dot h k hw hI follow hin
    by_cases h2 : x = dotsB
    · have : stepR d up at' x follow n = ⟨.on (up at'), ⟨#[]⟩, 0, n⟩ := by unfold stepR; rw [if_neg h0, if_neg h1, if_pos h2]
      rw [this, h2]
      refine step_up h k hw hI follow hin ?_
      unfold intoErr at hin
      exact Classical.byContradiction fun hf => by rw [if_pos hf] at hin; exact hf hin
    by_cases h3 : 255 < x.size
    · have : stepR d up at' x follow n = ⟨.no, ⟨#[]⟩, 18, n⟩ := by unfold stepR; rw [if_neg h0, if_neg h1, if_neg h2, if_pos h3]
      rw [this]
      exact step_long h k hw hI x follow hin h1 h2 h3
    · exact step_name h k hgw hw hI hs x follow hn hin h1 h2 h3

theorem rest_any (S : Nat → Prop) (w : World) (p : Option Addr) (c : Nat) (l : List ByteArray) (h : SlAt encStr S w p c l) (t : ByteArray) (slash : Bool)
    (hl : ∀ x ∈ l, x.size ≤ 4095) (hn : l.length ≤ 4096) (ht : t.size ≤ 2147483648) :
    Calls Tryd.prog 45 #[.string t, .slice p l.length c, .bool slash] w fun e w' => e = .returned (.string (restB t l slash)) ∧ w' = w := by
  have hcap := h.cap
  have hmax := h.max
  unfold maxLen at hmax
  have HL := Lib.hid hl
  clear hl
  have HR := Lib.hid (show restB t l slash = if slash && !endS (l.foldl joinB t) then l.foldl joinB t ++ slashB else l.foldl joinB t from rfl)
  have HF := Lib.hid (fun k : Nat => fold_size (l.take k) 4095 (fun x hx => HL.out x (List.mem_of_mem_take hx)) t)
  generalize restB t l slash = Q at *
  go_enter Tryd.func45, Tryd.ntmps45
  go_wp2
  go_loop [7, 13] (fun s i => ∃ k : Nat, k ≤ l.length ∧ i = .int .i64 k ∧ s = .string ((l.take k).foldl joinB t)) (fun _ i => l.length - (intOf i).toNat)
  case atStart => exact ⟨0, Nat.zero_le _, rfl, rfl⟩
  case round =>
    obtain ⟨k, hk, rfl, rfl⟩ := hrel
    have hf := HF.out k
    rw [List.length_take, Nat.min_eq_left hk] at hf
    by_cases hlt : k < l.length
    · obtain ⟨x, hx⟩ : ∃ x, l[k]? = some x := ⟨_, List.getElem?_eq_getElem hlt⟩
      obtain ⟨gb, off, rfl, hS, hg, c0⟩ := h.str hx
      have hxs := HL.out x (List.mem_of_getElem? hx)
      have HT := Lib.hid (show (l.take (k + 1)).foldl joinB t = joinB ((l.take k).foldl joinB t) x by rw [List.take_add_one, hx]; simp)
      clear hx
      generalize (l.take k).foldl joinB t = s at *
      go_wp2_with (go_at_call 65; refine (join_any _ _ _ (by omega) (by omega)).mono ?_; rintro e w' ⟨rfl, rfl⟩)
      go_round
      case rel => exact ⟨k + 1, by omega, by go_num, by rw [HT.out]⟩
      case measure => simp [intOf]; omega
    · obtain rfl : k = l.length := by omega
      rw [List.take_length] at hf ⊢
      generalize l.foldl joinB t = s at *
      cases slash with
      | false =>
        go_wp2_with fail
        go_ret
        refine ⟨?_, rfl⟩
        rw [HR.out]
        simp
      | true =>
        cases he : endS s with
        | false =>
          rw [he] at HR
          have HE := Lib.hid (hs1 s w (by omega))
          rw [he] at HE
          go_wp2_with (go_at_call 24; refine HE.out.mono ?_; rintro e w' ⟨rfl, rfl⟩)
          go_ret
          refine ⟨?_, rfl⟩
          rw [HR.out]
          simp
        | true =>
          rw [he] at HR
          have HE := Lib.hid (hs1 s w (by omega))
          rw [he] at HE
          go_wp2_with (go_at_call 24; refine HE.out.mono ?_; rintro e w' ⟨rfl, rfl⟩)
          go_ret
          refine ⟨?_, rfl⟩
          rw [HR.out]
          simp

theorem end_any (h : Rep R w a d room us lk up) (p : Plc) (slash : Bool) :
    Calls Tryd.prog 46 #[.pointer (some ⟨a, 0, none⟩), plcV p, .bool slash] w fun e w' => e = .returned (.tuple #[plcV (endR d p slash).1, .int .i64 (endR d p slash).2]) ∧ Keeps NoB w w' := by
  obtain ⟨er, her⟩ : ∃ er : Int, er = if has d p.node then 0 else 12 := ⟨_, rfl⟩
  have HIf := Lib.hid (fun (w1 : World) (hk : Keeps NoB w w1) => info_k (h.keepN hk) p.node er her)
  clear her
  obtain ⟨node, dir, name⟩ := p
  have HQ := Lib.hid (show endR d ⟨node, dir, name⟩ slash = if slash = false ∨ node = 0 then (⟨node, dir, name⟩, 0) else if (nd d node).kind ≠ 2 then (.no, 14) else (⟨node, dir, name⟩, 0) from rfl)
  generalize endR d ⟨node, dir, name⟩ slash = Q at *
  unfold plcV
  simp only at HIf ⊢
  generalize (nd d node).kind = kd at *
  go_enter Tryd.func46, Tryd.ntmps46
  cases slash with
  | false =>
    go_wp2_with fail
    (try simp only [Exit.inBlock, Exit.then])
    refine bodyPost_ret (v := .tuple #[plcV ⟨node, dir, name⟩, .int .i64 0]) ?_ rfl ?_
    · rw [results_cell_tmp rfl]; unfold plcV; go_simp
    · refine ⟨by rw [HQ.out]; simp [plcV], ?_⟩
      (repeat (first | with_reducible assumption | (with_reducible exact Keeps.refl _ _) | (with_reducible refine Keeps.drew ?_) | (with_reducible refine Keeps.alloc ?_ _) | (with_reducible refine Keeps.setCell ?_ (by first | exact Or.inl rfl | exact Or.inr (Nat.le_refl _) | exact Or.inr (by first | (simp; done) | (simp; omega))) _)))
  | true =>
    by_cases h0 : node = 0
    · subst h0
      go_wp2_with fail
      (try simp only [Exit.inBlock, Exit.then])
      refine bodyPost_ret (v := .tuple #[plcV ⟨0, dir, name⟩, .int .i64 0]) ?_ rfl ?_
      · rw [results_cell_tmp rfl]; unfold plcV; go_simp
      · refine ⟨by rw [HQ.out]; simp [plcV], ?_⟩
        (repeat (first | with_reducible assumption | (with_reducible exact Keeps.refl _ _) | (with_reducible refine Keeps.drew ?_) | (with_reducible refine Keeps.alloc ?_ _) | (with_reducible refine Keeps.setCell ?_ (by first | exact Or.inl rfl | exact Or.inr (Nat.le_refl _) | exact Or.inr (by first | (simp; done) | (simp; omega))) _)))
    · have h0' : (node == 0) = false := by simpa using h0
      have k1 : Keeps NoB w (w.alloc (.cells #[.int .i64 node, .int .i64 dir, .string name] 55)) := (Keeps.refl _ _).alloc _
      have KA := c3_new (Keeps.refl NoB (w.alloc (.cells #[.int .i64 node, .int .i64 dir, .string name] 55)))
      have e1 : (w.alloc (.cells #[.int .i64 node, .int .i64 dir, .string name] 55)).heap.size = w.heap.size + 1 := by simp
      go_upto_region 3 with fail
      generalize w.alloc (.cells #[.int .i64 node, .int .i64 dir, .string name] 55) = w1 at *
      have k2 : Keeps NoB w1 (w1.alloc (.cells #[.int .i64 0, .int .i64 0, .string ⟨#[]⟩] 55)) := (Keeps.refl _ _).alloc _
      have KB := c3_new (Keeps.refl NoB (w1.alloc (.cells #[.int .i64 0, .int .i64 0, .string ⟨#[]⟩] 55)))
      rw [e1] at KB
      replace KA := KA.on k2
      replace k1 := k1.trans k2
      try simp only [e1]
      generalize w1.alloc (.cells #[.int .i64 0, .int .i64 0, .string ⟨#[]⟩] 55) = w2 at *
      clear k2 e1
      have A0 := KA.c0
      have A1 := KA.c1
      have A2 := KA.c2
      have AZ := KA.fz
      have B0 := KB.c0
      have B1 := KB.c1
      have B2 := KB.c2
      have FB := KB.fz
      have zlt := KB.lt
      have zla := KA.lt
      by_cases h2 : kd = 2
      · subst h2
        go_wp2_with (first | (go_at_call 22; go_loud (refine (HIf.out _ k1).mono ?_); rintro e w3 ⟨m, l, hh, z, hm, rfl, hk3⟩; (replace KA := KA.on hk3); (replace KB := KB.on hk3); (replace k1 := k1.trans hk3); clear A0 A1 A2 AZ B0 B1 B2 FB zlt zla; have A0 := KA.c0; have A1 := KA.c1; have A2 := KA.c2; have AZ := KA.fz; have B0 := KB.c0; have B1 := KB.c1; have B2 := KB.c2; have FB := KB.fz; have zlt := KB.lt; have zla := KA.lt))
        (try simp only [Exit.inBlock, Exit.then])
        refine bodyPost_ret (v := .tuple #[plcV ⟨node, dir, name⟩, .int .i64 0]) ?_ rfl ?_
        · rw [results_cell_tmp rfl]; unfold plcV; go_simp
        · refine ⟨by rw [HQ.out]; simp [plcV, h0], ?_⟩
          (repeat (first | with_reducible assumption | (with_reducible exact Keeps.refl _ _) | (with_reducible refine Keeps.drew ?_) | (with_reducible refine Keeps.alloc ?_ _) | (with_reducible refine Keeps.setCell ?_ (by first | exact Or.inl rfl | exact Or.inr (Nat.le_refl _) | exact Or.inr (by first | (simp; done) | (simp; omega))) _)))
      · have h2' : (kd != 2) = true := by simpa using h2
        go_wp2_with (first | (go_at_call 22; go_loud (refine (HIf.out _ k1).mono ?_); rintro e w3 ⟨m, l, hh, z, hm, rfl, hk3⟩; (replace KA := KA.on hk3); (replace KB := KB.on hk3); (replace k1 := k1.trans hk3); clear A0 A1 A2 AZ B0 B1 B2 FB zlt zla; have A0 := KA.c0; have A1 := KA.c1; have A2 := KA.c2; have AZ := KA.fz; have B0 := KB.c0; have B1 := KB.c1; have B2 := KB.c2; have FB := KB.fz; have zlt := KB.lt; have zla := KA.lt))
        (try simp only [Exit.inBlock, Exit.then])
        refine bodyPost_ret (v := .tuple #[plcV .no, .int .i64 14]) ?_ rfl ?_
        · rw [results_cell_tmp rfl]; unfold plcV Plc.no; go_simp
        · refine ⟨by rw [HQ.out]; simp [plcV, h0, h2, Plc.no], ?_⟩
          (repeat (first | with_reducible assumption | (with_reducible exact Keeps.refl _ _) | (with_reducible refine Keeps.drew ?_) | (with_reducible refine Keeps.alloc ?_ _) | (with_reducible refine Keeps.setCell ?_ (by first | exact Or.inl rfl | exact Or.inr (Nat.le_refl _) | exact Or.inr (by first | (simp; done) | (simp; omega))) _)))

end
end Go.Proofs.YtfomkkoecelakaaDoor
