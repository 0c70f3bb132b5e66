/-
  Contracts of package dir, the third part: slices.Insert, slices.Delete, Put, Set, Drop.
-/
import Derived.Test.YtfomkkoecelakaaDoorB04
import Derived.StillTailTactics
import Derived.Lib.AppendZerosOnto

set_option linter.unusedSimpArgs false
set_option linter.unusedVariables false

namespace Go.Proofs.YtfomkkoecelakaaDoor
open Go.RowKit

theorem info_ent : ∃ i : TypeInfo, Tryd.prog.info? 41 = some i ∧ i.size = encEnt.k ∧ i.bytes = 24 ∧ i.zero = some (.agg #[.string ByteArray.empty, .int .i64 0]) := by
  have h : (Tryd.prog.info? 41).map (fun i => (i.zero, i.size, i.bytes)) = some (some (.agg #[.string ByteArray.empty, .int .i64 0]), 2, 24) := by kernel_rfl
  cases hi : Tryd.prog.info? 41 with
  | none => rw [hi] at h; cases h
  | some i => rw [hi] at h; simp at h; exact ⟨i, rfl, h.2.1, h.2.2, h.1⟩

set_option maxHeartbeats 1000000 in
set_option maxRecDepth 100000 in
theorem ins_end (G : Nat → Prop) (w : World) (v : Value) (es : List Ent) (x : Ent) (b : Nat) (ho : Own encEnt 41 G w v es) (hG : G w.heap.size) (hn : es.length < 4294967295)
    (hx : w.heap[b]? = some (.cells #[.string x.1, .int .i64 x.2] 41 (0, 0))) :
    Calls Tryd.prog 68 #[v, .int .i64 es.length, .slice (some ⟨b, 0, none⟩) 1 1] w fun e w' =>
      ∃ v', e = .returned v' ∧ Own encEnt 41 G w' v' (es ++ [x]) ∧ Keeps (fun g => v.ownBlock = some g) w w' ∧ (∀ g, v'.ownBlock = some g → v.ownBlock = some g ∨ w.heap.size ≤ g) := by
  have hsx : Sl encEnt (fun _ => True) w (.slice (some ⟨b, 0, none⟩) 1 1) [x] :=
    (Own.mk (E := encEnt) (l := [x]) (cap := 1) (S := fun _ => True) trivial hx (Nat.le_refl _) (by decide) rfl rfl).sl
  obtain ⟨p, c, rfl, hs⟩ := ho.sl
  have hcap := hs.cap
  have hmax := hs.max
  unfold maxLen at hmax
  have hsl := fun wx => run_slice_l (P := Tryd.prog) 32 41 2 Tryd.underlying32 (by kernel_rfl) p es.length c es.length (Nat.le_refl _) wx (by omega)
  go_enter Tryd.func68, Tryd.ntmps68
  go_wp2_with (at_builtin; refine wpl_append rfl _ _ rfl tEnt ho hsx rfl rfl hG (by simp [maxLen]; omega) (by simp; omega) ?_; intro v' w' ho' hk hf)
  go_ret
  exact ⟨v', rfl, ho', hk, hf⟩

/-- append(s[:i], make([]Entry, k)...) where there is no room. -/
theorem run_grow_zeros (G : Nat → Prop) (w : World) (g c : Nat) (cur : Array Value) (es : List Ent) (i k : Nat) (hG : G w.heap.size) (ty : TypeId)
    (hg : w.heap[g]? = some (.cells cur 41 (0, 0))) (hcs : cur.size = c * 2) (htk : cur.toList.take (es.length * 2) = es.flatMap encEnt.enc) (hc1 : es.length ≤ c)
    (hi : i ≤ es.length) (hk : 0 < k) (hfull : c < i + k) (hb : i + k ≤ 4294967296) :
    ∃ cap' cur' w1, (Builtin.append_ #[32, 3] ty #[.slice (some ⟨g, 0, none⟩) i c, .int .i64 (k : Int)]).run Tryd.prog w = .ok (.slice (some ⟨w.heap.size, 0, none⟩) (i + k) cap') w1 ∧
      w1.heap[w.heap.size]? = some (.cells cur' 41 (0, 0)) ∧ cur'.size = cap' * 2 ∧ i + k ≤ cap' ∧ cap' ≤ maxLen ∧ cur'.toList.take (i * 2) = (es.take i).flatMap encEnt.enc ∧ Keeps NoB w w1 := by
  obtain ⟨inf, hi', his, hib, hiz⟩ := info_ent
  have hm : i + k ≤ maxLen := by simp only [maxLen]; omega
  have hold : (Builtin.firstCells inf.size i (.slice (some ⟨g, 0, none⟩) i c)).run Tryd.prog w.drew = .ok ((es.take i).flatMap encEnt.enc).toArray w.drew := by
    refine run_firstCells_some w.drew inf.size i ⟨g, 0, none⟩ i c _ (by rw [encEnt.flat_len, his, List.length_take, Nat.min_eq_left hi]) (fun j u hu => ?_)
    have hj := (List.getElem?_eq_some_iff.1 hu).1
    rw [encEnt.flat_take, List.length_take, encEnt.flat_len] at hj
    rw [encEnt.flat_take, ← htk, List.getElem?_take, List.getElem?_take] at hu
    have hk2 : encEnt.k = 2 := rfl
    rw [hk2] at hj hu
    rw [if_pos (by omega), if_pos (by omega)] at hu
    rw [add_lit, World.cell?_drew, cell_of_row w g _ cur _ (0, 0) hg, Nat.zero_add]
    simpa using hu
  have hr := Lib.run_append_grow_zeros (P := Tryd.prog) w 32 3 ty 41 inf _ .i64 .i64 Tryd.underlying32 Tryd.underlying3 hi' hiz (some ⟨g, 0, none⟩) i c _ hold k hk (by rw [his]; decide) hfull
    (by omega) (by rw [hib]; omega) (growslice_fits hfull (by rw [hib]; omega))
  have hge := grownCap_ge w (i + k) c 41
  have hle := grownCap_le_maxLen w (i + k) c 41 hm
  refine ⟨_, _, _, hr, heap_alloc_new w.drew _, ?_, hge, hle, ?_, ((Keeps.refl _ _).drew).alloc _⟩
  · simp only [Array.size_append, List.size_toArray, size_zeroCells]
    rw [encEnt.flat_len]
    have hk2 : encEnt.k = 2 := rfl
    have hzz : (Value.agg #[.string ByteArray.empty, .int .i64 0]).cells.size = 2 := rfl
    rw [hzz, hk2, List.length_take]
    omega
  · simp only [Array.toList_append, List.append_assoc]
    have hl : ((es.take i).flatMap encEnt.enc).length = i * 2 := by
      have hk2 : encEnt.k = 2 := rfl
      rw [encEnt.flat_len, hk2, List.length_take]; omega
    rw [← hl]
    exact List.take_left

set_option maxHeartbeats 1000000 in
set_option maxRecDepth 100000 in
theorem ins_grow (G : Nat → Prop) (w : World) (g c : Nat) (cur : Array Value) (es : List Ent) (x : Ent) (b i : Nat) (hG : G w.heap.size) (hn : es.length < 4294967295)
    (hg : w.heap[g]? = some (.cells cur 41 (0, 0))) (hc1 : es.length ≤ c) (hc2 : c ≤ maxLen) (hcs : cur.size = c * 2) (htk : cur.toList.take (es.length * 2) = es.flatMap encEnt.enc)
    (hx : w.heap[b]? = some (.cells #[.string x.1, .int .i64 x.2] 41 (0, 0))) (hi : i < es.length) (hfull : c < es.length + 1) :
    Calls Tryd.prog 68 #[.slice (some ⟨g, 0, none⟩) es.length c, .int .i64 i, .slice (some ⟨b, 0, none⟩) 1 1] w fun e w' =>
      ∃ v', e = .returned v' ∧ Own encEnt 41 G w' v' (es.take i ++ x :: es.drop i) ∧ Keeps NoB w w' ∧ (∀ g, v'.ownBlock = some g → w.heap.size ≤ g) := by
  obtain ⟨inf, hi', his, hib, hiz⟩ := info_ent
  have hsx : SlAt encEnt (fun _ => True) w (some ⟨b, 0, none⟩) 1 [x] := by
    obtain ⟨p, c, h, hs⟩ := (Own.mk (E := encEnt) (l := [x]) (cap := 1) (S := fun _ => True) trivial hx (Nat.le_refl _) (by decide) rfl rfl).sl
    cases h; exact hs
  have hse : SlAt encEnt (fun _ => True) w (some ⟨g, 0, none⟩) c es := by
    obtain ⟨p, c', h, hs⟩ := (Own.mk (E := encEnt) (l := es) (cap := c) (S := fun _ => True) trivial hg hc1 hc2 hcs htk).sl
    cases h; exact hs
  obtain ⟨cap', cur', w1, hrun, hg1, hcs1, hcap1, hcm1, htk1, hk1⟩ := run_grow_zeros G w g c cur es i (es.length + 1 - i) hG 32 hg hcs htk hc1 (by omega) (by omega) (by omega) (by omega)
  have ek : ((es.length + 1 - i : Nat) : Int) = (es.length : Int) + 1 - i := by omega
  have ek2 : i + (es.length + 1 - i) = es.length + 1 := by omega
  rw [ek, ek2] at hrun
  have Hrun := Lib.hid hrun
  clear hrun ek ek2
  unfold maxLen at hc2
  go_enter Tryd.func68, Tryd.ntmps68
  have hk2e : encEnt.k = 2 := rfl
  go_wp2_with (first | (at_builtin; refine Lib.wpList_append_run _ rfl _ _ _ _ rfl _ _ rfl rfl _ _ Hrun.out ?_) | (refine wpl_copy (E := encEnt) rfl (.tmp 43) (.tmp 44) _ _ rfl Tryd.underlying32 hi' his _ _ _ _ rfl _ _ hg1 rfl (hsx.keepN hk1) ?_ ?_ ?_))
  · simp [Nat.min_def]; omega
  · rw [hcs1, hk2e]; simp only [List.length_singleton]; omega
  simp only [List.length_singleton, hk2e]
  obtain ⟨cur2, hcur2⟩ : ∃ cur2, cur2 = (List.take (i * 2) cur'.toList ++ (List.flatMap encEnt.enc [x] ++ List.drop (i * 2 + 1 * 2) cur'.toList)).toArray := ⟨_, rfl⟩
  rw [← hcur2]
  have hg2 := setRow_heap w1 w.heap.size cur' cur2 _ (0, 0) hg1
  have hk2 := hk1.setRow (g := w.heap.size) (Or.inr (Nat.le_refl _)) cur2
  have Hcur2 := Lib.hid hcur2
  clear hcur2
  generalize w1.setRow w.heap.size cur2 = w2 at *
  have e1 : subAt 2 (some ⟨w.heap.size, 0, none⟩) cap' (i + 1) = some ⟨w.heap.size, (i + 1) * 2, none⟩ := by
    unfold subAt; rw [if_neg (by omega)]; simp [add_lit]
  have hsl1 := fun wx => run_slice_l (P := Tryd.prog) 32 41 2 Tryd.underlying32 (by kernel_rfl) (some ⟨w.heap.size, 0, none⟩) (es.length + 1) cap' (i + 1) (by omega) wx (by omega)
  have hsl2 := fun wx => run_slice_l (P := Tryd.prog) 32 41 2 Tryd.underlying32 (by kernel_rfl) (some ⟨g, 0, none⟩) es.length c i (by omega) wx (by omega)
  rw [e1, show ((i + 1 : Nat) : Int) = (i : Int) + 1 by omega, show es.length + 1 - (i + 1) = es.length - i by omega] at hsl1
  clear e1
  go_wp2_with fail
  have hsum : IntKind.i64.wrap ((i : Int) + 1) = (i : Int) + 1 := by rw [IntKind.wrap_i64]; omega
  go_still_tail 8, (by kernel_rfl)
  clear hsum
  change wpList _ _ _ _ _ w2.drew
  have hg3 : w2.drew.heap[w.heap.size]? = some (.cells cur2 41 (0, 0)) := hg2
  have hk3 : Keeps NoB w w2.drew := hk2.drew
  clear hg2 hk2
  generalize w2.drew = w3 at *
  have hsub := (hse.sub i es.length (by omega) (Nat.le_refl _)).keepN hk3
  rw [List.take_length] at hsub
  have hcl : cur2.size = cap' * 2 := by
    rw [Hcur2.out, List.size_toArray, List.length_append, List.length_append, List.length_take, List.length_drop, Array.length_toList, hcs1, encEnt.flat_len, hk2e]; simp only [List.length_singleton]; omega
  refine wpl_copy (E := encEnt) rfl (.tmp 50) (.tmp 53) _ _ rfl Tryd.underlying32 hi' his _ _ _ _ rfl _ _ hg3 rfl hsub ?_ ?_ ?_
  · simp
  · rw [hcl, hk2e, List.length_drop]; omega
  rw [List.length_drop, hk2e]
  obtain ⟨cur3, hcur3⟩ : ∃ cur3, cur3 = (List.take ((i + 1) * 2) cur2.toList ++ (List.flatMap encEnt.enc (List.drop i es) ++ List.drop ((i + 1) * 2 + (es.length - i) * 2) cur2.toList)).toArray := ⟨_, rfl⟩
  rw [← hcur3]
  have hg4 := setRow_heap w3 w.heap.size cur2 cur3 _ (0, 0) hg3
  have hk4 := hk3.setRow (g := w.heap.size) (Or.inr (Nat.le_refl _)) cur3
  have Hcur3 := Lib.hid hcur3
  clear hcur3
  generalize w3.setRow w.heap.size cur3 = w4 at *
  go_wp2_with fail
  go_ret
  have hL : cur'.toList.length = cap' * 2 := by rw [Array.length_toList]; exact hcs1
  have hAl : (List.flatMap encEnt.enc (es.take i)).length = i * 2 := by rw [encEnt.flat_len, hk2e, List.length_take]; omega
  have hVl : (List.flatMap encEnt.enc [x]).length = 2 := rfl
  have hBl : (List.flatMap encEnt.enc (es.drop i)).length = (es.length - i) * 2 := by rw [encEnt.flat_len, hk2e, List.length_drop]
  have hsp := splice_two cur'.toList (List.flatMap encEnt.enc (es.take i)) (List.flatMap encEnt.enc [x]) (List.flatMap encEnt.enc (es.drop i)) cur2.toList cur3.toList
    (by rw [hAl]; exact htk1) (by rw [hAl, hVl, hBl, hL]; omega)
    (by rw [hAl, hVl, Hcur2.out]) (by rw [hAl, hVl, hBl, Hcur3.out]; simp [Nat.add_mul])
  refine ⟨_, rfl, ?_, hk4, fun g h => by simp [Value.ownBlock] at h; omega⟩
  have hll : (es.take i ++ x :: es.drop i).length = es.length + 1 := by simp; omega
  rw [← hll]
  refine Own.mk hG hg4 (by rw [hll]; omega) hcm1 ?_ ?_
  · rw [← Array.length_toList, hsp.2, hL, hk2e]
  · have := hsp.1
    rw [hAl, hVl, hBl] at this
    rw [hll, hk2e, show (es.length + 1) * 2 = i * 2 + 2 + (es.length - i) * 2 by omega, this, List.flatMap_append, List.flatMap_cons]
    rfl

set_option maxHeartbeats 1000000 in
set_option maxRecDepth 100000 in
theorem ins_room (G : Nat → Prop) (w : World) (g c : Nat) (cur : Array Value) (es : List Ent) (x : Ent) (b i : Nat) (hG : G g) (hn : es.length < 4294967295)
    (hg : w.heap[g]? = some (.cells cur 41 (0, 0))) (hc1 : es.length ≤ c) (hc2 : c ≤ maxLen) (hcs : cur.size = c * 2) (htk : cur.toList.take (es.length * 2) = es.flatMap encEnt.enc)
    (hx : w.heap[b]? = some (.cells #[.string x.1, .int .i64 x.2] 41 (0, 0))) (hbg : b ≠ g) (hi : i < es.length) (hroom : es.length + 1 ≤ c) :
    Calls Tryd.prog 68 #[.slice (some ⟨g, 0, none⟩) es.length c, .int .i64 i, .slice (some ⟨b, 0, none⟩) 1 1] w fun e w' =>
      e = .returned (.slice (some ⟨g, 0, none⟩) (es.length + 1) c) ∧ Own encEnt 41 G w' (.slice (some ⟨g, 0, none⟩) (es.length + 1) c) (es.take i ++ x :: es.drop i) ∧ Keeps (fun k => k = g) w w' := by
  obtain ⟨inf, hi', his, hib, hiz⟩ := info_ent
  have hk2e : encEnt.k = 2 := rfl
  have hcm := hc2
  have hsx : SlAt encEnt (fun k => k = b) w (some ⟨b, 0, none⟩) 1 [x] := by
    obtain ⟨p, c, h, hs⟩ := (Own.mk (E := encEnt) (l := [x]) (cap := 1) (S := fun k => k = b) rfl hx (Nat.le_refl _) (by decide) rfl rfl).sl
    cases h; exact hs
  have hse : SlAt encEnt (fun k => k = g) w (some ⟨g, 0, none⟩) c es := by
    obtain ⟨p, c', h, hs⟩ := (Own.mk (E := encEnt) (l := es) (cap := c) (S := fun k => k = g) rfl hg hc1 hc2 hcs htk).sl
    cases h; exact hs
  unfold maxLen at hc2
  have e1 : subAt 2 (some ⟨g, 0, none⟩) c (i + 1) = some ⟨g, (i + 1) * 2, none⟩ := by
    unfold subAt; rw [if_neg (by omega)]; simp [add_lit]
  have e2 : subAt 2 (some ⟨g, 0, none⟩) c i = some ⟨g, i * 2, none⟩ := by
    unfold subAt; rw [if_neg (by omega)]; simp [add_lit]
  have hsl0 := fun wx => run_slice_l (P := Tryd.prog) 32 41 2 Tryd.underlying32 (by kernel_rfl) (some ⟨g, 0, none⟩) es.length c i (by omega) wx (by omega)
  have hsl1 := fun wx => run_slice_l (P := Tryd.prog) 32 41 2 Tryd.underlying32 (by kernel_rfl) (some ⟨g, 0, none⟩) (es.length + 1) c (i + 1) (by omega) wx (by omega)
  have hsl2 := fun wx => run_slice_l (P := Tryd.prog) 32 41 2 Tryd.underlying32 (by kernel_rfl) (some ⟨g, 0, none⟩) (es.length + 1) c i (by omega) wx (by omega)
  rw [e1, show ((i + 1 : Nat) : Int) = (i : Int) + 1 by omega, show es.length + 1 - (i + 1) = es.length - i by omega] at hsl1
  rw [e2] at hsl0 hsl2
  clear e1 e2
  go_enter Tryd.func68, Tryd.ntmps68
  go_wp2_with fail
  rw [run_callFunc_extern Tryd.func84 (by kernel_rfl) (by kernel_rfl) (by kernel_rfl) (e := Extern.SlicesOverlaps.overlaps #[32, 32] #[4]) (by kernel_rfl),
    Lib.run_overlaps_apart w 32 4 41 Tryd.underlying32 2 (fun w => by simp [sizeOf, typeInfo, hi', his, hk2e]) ⟨b, 0, none⟩ ⟨g, (i + 1) * 2, none⟩ 1 1 (es.length - i) (c - (i + 1)) hbg 41 41 2 cur.size
      (by simp [World.shape?, hx]) (by simp [World.shape?, hg]) (by omega) (by simp [World.frozen?, hx]) (by simp [World.frozen?, hx])]
  simp only [Result.andThen]
  rw [Oper.upon_value]
  go_wp2_with fail
  have hsum : IntKind.i64.wrap ((i : Int) + 1) = (i : Int) + 1 := by rw [IntKind.wrap_i64]; omega
  go_still_tail 8, (by kernel_rfl)
  clear hsum
  change wpList _ _ _ _ _ w.drew
  have hg1 : w.drew.heap[g]? = some (.cells cur 41 (0, 0)) := hg
  have hk1 : Keeps (fun k => k = g) w w.drew := (Keeps.refl _ w).drew
  have hsub := (hse.sub i es.length (by omega) (Nat.le_refl _)).keepN (Keeps.refl NoB w).drew
  rw [List.take_length] at hsub
  have e2 : subAt encEnt.k (some ⟨g, 0, none⟩) c i = some ⟨g, i * 2, none⟩ := by
    unfold subAt; rw [if_neg (by omega)]; simp [add_lit, hk2e]
  rw [e2] at hsub
  clear e2
  generalize w.drew = w1 at *
  refine wpl_copy (E := encEnt) rfl (.tmp 73) (.tmp 76) _ _ rfl Tryd.underlying32 hi' his _ _ _ _ rfl _ _ hg1 rfl hsub ?_ ?_ ?_
  · simp [Nat.min_def]; omega
  · rw [hcs, hk2e, List.length_drop]; omega
  rw [List.length_drop, hk2e]
  obtain ⟨cur2, hcur2⟩ : ∃ cur2, cur2 = (List.take ((i + 1) * 2) cur.toList ++ (List.flatMap encEnt.enc (List.drop i es) ++ List.drop ((i + 1) * 2 + (es.length - i) * 2) cur.toList)).toArray := ⟨_, rfl⟩
  rw [← hcur2]
  have hg2 := setRow_heap w1 g cur cur2 _ (0, 0) hg1
  have hk2 := hk1.setRow (g := g) (Or.inl rfl) cur2
  have Hcur2 := Lib.hid hcur2
  clear hcur2
  have hsx2 := hsx.keep hk2 (fun k hk _ e => hbg (by rw [← hk, e]))
  generalize w1.setRow g cur2 = w2 at *
  have hcl : cur2.size = c * 2 := by
    have hL : cur.toList.length = c * 2 := by rw [Array.length_toList]; exact hcs
    rw [Hcur2.out, List.size_toArray, List.length_append, List.length_append, List.length_take, List.length_drop, hL, encEnt.flat_len, hk2e, List.length_drop]; omega
  go_wp2_with (refine wpl_copy (E := encEnt) rfl (.tmp 80) (.tmp 81) _ _ rfl Tryd.underlying32 hi' his _ _ _ _ rfl _ _ hg2 rfl hsx2 ?_ ?_ ?_)
  · simp [Nat.min_def]; omega
  · rw [hcl, hk2e]; simp only [List.length_singleton]; omega
  obtain ⟨cur3, hcur3⟩ : ∃ cur3, cur3 = (List.take (i * 2) cur2.toList ++ (encEnt.enc x ++ List.drop (i * 2 + 2) cur2.toList)).toArray := ⟨_, rfl⟩
  rw [← hcur3]
  have hg3 := setRow_heap w2 g cur2 cur3 _ (0, 0) hg2
  have hk3 := hk2.setRow (g := g) (Or.inl rfl) cur3
  have Hcur3 := Lib.hid hcur3
  clear hcur3
  generalize w2.setRow g cur3 = w3 at *
  go_ret
  have hL : cur.toList.length = c * 2 := by rw [Array.length_toList]; exact hcs
  have hAl : (List.flatMap encEnt.enc (es.take i)).length = i * 2 := by rw [encEnt.flat_len, hk2e, List.length_take]; omega
  have hVl : (List.flatMap encEnt.enc [x]).length = 2 := rfl
  have hBl : (List.flatMap encEnt.enc (es.drop i)).length = (es.length - i) * 2 := by rw [encEnt.flat_len, hk2e, List.length_drop]
  have htA : cur.toList.take (i * 2) = List.flatMap encEnt.enc (es.take i) := by
    rw [encEnt.flat_take, ← htk, List.take_take, hk2e, Nat.min_eq_left (by omega)]
  have hsp := splice_back cur.toList (List.flatMap encEnt.enc (es.take i)) (List.flatMap encEnt.enc [x]) (List.flatMap encEnt.enc (es.drop i)) cur2.toList cur3.toList
    (by rw [hAl]; exact htA) (by rw [hAl, hVl, hBl, hL]; omega)
    (by rw [hAl, hVl, hBl, Hcur2.out]; simp [Nat.add_mul]) (by rw [hAl, hVl, Hcur3.out]; simp)
  refine ⟨rfl, ?_, hk3⟩
  have hll : (es.take i ++ x :: es.drop i).length = es.length + 1 := by simp; omega
  rw [← hll]
  refine Own.mk hG hg3 (by rw [hll]; omega) hcm ?_ ?_
  · rw [← Array.length_toList, hsp.2, hL, hk2e]
  · have := hsp.1
    rw [hAl, hVl, hBl] at this
    rw [hll, hk2e, show (es.length + 1) * 2 = i * 2 + 2 + (es.length - i) * 2 by omega, this, List.flatMap_append, List.flatMap_cons]
    rfl
end Go.Proofs.YtfomkkoecelakaaDoor

/-
  Contracts of package dir, the fourth part: slices.Delete, Put, Set, Drop.
-/
namespace Go.Proofs.YtfomkkoecelakaaDoor
open Go.RowKit

set_option maxHeartbeats 1000000 in
set_option maxRecDepth 100000 in
theorem del_own (G : Nat → Prop) (w : World) (g c : Nat) (cur : Array Value) (es : List Ent) (i : Nat) (hG : G g) (hn : es.length < 4294967295)
    (hg : w.heap[g]? = some (.cells cur 41 (0, 0))) (hc1 : es.length ≤ c) (hc2 : c ≤ maxLen) (hcs : cur.size = c * 2) (htk : cur.toList.take (es.length * 2) = es.flatMap encEnt.enc) (hi : i < es.length) :
    Calls Tryd.prog 69 #[.slice (some ⟨g, 0, none⟩) es.length c, .int .i64 i, .int .i64 ((i : Int) + 1)] w fun e w' =>
      e = .returned (.slice (some ⟨g, 0, none⟩) (es.length - 1) c) ∧ Own encEnt 41 G w' (.slice (some ⟨g, 0, none⟩) (es.length - 1) c) (es.take i ++ es.drop (i + 1)) ∧ Keeps (fun k => k = g) w w' := by
  obtain ⟨inf, hi', his, hib, hiz⟩ := info_ent
  have hk2e : encEnt.k = 2 := rfl
  have hcm := hc2
  have hse : SlAt encEnt (fun k => k = g) w (some ⟨g, 0, none⟩) c es := by
    obtain ⟨p, c', h, hs⟩ := (Own.mk (E := encEnt) (l := es) (cap := c) (S := fun k => k = g) rfl hg hc1 hc2 hcs htk).sl
    cases h; exact hs
  unfold maxLen at hc2
  have hsub := (hse.sub (i + 1) es.length (by omega) (Nat.le_refl _)).keepN (Keeps.refl NoB w).drew
  rw [List.take_length] at hsub
  have hsl1 := fun wx => run_slice_l (P := Tryd.prog) 32 41 2 Tryd.underlying32 (by kernel_rfl) (some ⟨g, 0, none⟩) es.length c (i + 1) (by omega) wx (by omega)
  rw [show ((i + 1 : Nat) : Int) = (i : Int) + 1 by omega] at hsl1
  have hsl2 := fun wx => run_slice_h (P := Tryd.prog) 32 41 Tryd.underlying32 (by kernel_rfl) g 0 es.length c i (by omega) wx (by omega)
  have hne : ((i : Int) == (i : Int) + 1) = false := by rw [beq_eq_false_iff_ne]; omega
  go_enter Tryd.func69, Tryd.ntmps69
  go_wp2_with fail
  go_still_tail 6, (by kernel_rfl)
  change wpList _ _ _ _ _ w.drew
  have hg1 : w.drew.heap[g]? = some (.cells cur 41 (0, 0)) := hg
  have hk1 : Keeps (fun k => k = g) w w.drew := (Keeps.refl _ w).drew
  generalize w.drew = w1 at *
  have hdl : (es.drop (i + 1)).length = es.length - (i + 1) := by simp
  have hrun := run_append_inplace tEnt 32 g i c cur hg1 hcs hsub (by omega)
  rw [hdl, hk2e, show i + (es.length - (i + 1)) = es.length - 1 by omega] at hrun
  obtain ⟨cur2, hcur2⟩ : ∃ cur2, cur2 = (List.take (i * 2) cur.toList ++ List.flatMap encEnt.enc (List.drop (i + 1) es) ++ List.drop (i * 2 + (es.length - (i + 1)) * 2) cur.toList).toArray := ⟨_, rfl⟩
  rw [← hcur2] at hrun
  have hg2 := setRow_heap w1 g cur cur2 _ (0, 0) hg1
  have hk2 := hk1.setRow (g := g) (Or.inl rfl) cur2
  have Hcur2 := Lib.hid hcur2
  clear hcur2
  refine Lib.wpList_append_run _ rfl _ _ _ _ rfl _ _ rfl rfl _ _ hrun ?_
  generalize w1.setRow g cur2 = w2 at *
  have hL : cur.toList.length = c * 2 := by rw [Array.length_toList]; exact hcs
  have hcl : cur2.size = c * 2 := by
    rw [Hcur2.out, List.size_toArray, List.length_append, List.length_append, List.length_take, List.length_drop, hL, encEnt.flat_len, hk2e, hdl]; omega
  have e1 : es.length - (es.length - 1) = 1 := by omega
  have hcr := run_clear tEnt 0 g ((es.length - 1) * 2) (es.length - (es.length - 1)) (c - (es.length - 1)) cur2 hg2 (by rw [hk2e, hcl]; omega) (by omega)
  obtain ⟨cur3, hcur3⟩ : ∃ cur3, cur3 = (List.take ((es.length - 1) * 2) cur2.toList ++ List.flatMap encEnt.enc (List.replicate (es.length - (es.length - 1)) (ByteArray.empty, 0)) ++ List.drop ((es.length - 1) * 2 + (es.length - (es.length - 1)) * encEnt.k) cur2.toList).toArray := ⟨_, rfl⟩
  rw [← hcur3] at hcr
  rw [e1, hk2e] at hcur3
  clear e1
  have hg3 := setRow_heap w2 g cur2 cur3 _ (0, 0) hg2
  have hk3 := hk2.setRow (g := g) (Or.inl rfl) cur3
  have Hcur3 := Lib.hid hcur3
  clear hcur3
  go_wp2_with (refine wpl_clear rfl _ _ rfl _ rfl _ _ hcr ?_)
  go_ret
  refine ⟨rfl, ?_, hk3⟩
  have hL2 : cur2.toList.length = c * 2 := by rw [Array.length_toList]; exact hcl
  have hAl : (List.flatMap encEnt.enc (es.take i)).length = i * 2 := by rw [encEnt.flat_len, hk2e, List.length_take]; omega
  have hBl : (List.flatMap encEnt.enc (es.drop (i + 1))).length = (es.length - (i + 1)) * 2 := by rw [encEnt.flat_len, hk2e, hdl]
  have htA : cur.toList.take (i * 2) = List.flatMap encEnt.enc (es.take i) := by
    rw [encEnt.flat_take, ← htk, List.take_take, hk2e, Nat.min_eq_left (by omega)]
  have hll : (es.take i ++ es.drop (i + 1)).length = es.length - 1 := by simp; omega
  have ht2 : cur2.toList.take ((es.length - 1) * 2) = List.flatMap encEnt.enc (es.take i ++ es.drop (i + 1)) := by
    rw [Hcur2.out, htA, List.flatMap_append]
    rw [show (es.length - 1) * 2 = (List.flatMap encEnt.enc (es.take i) ++ List.flatMap encEnt.enc (es.drop (i + 1))).length by rw [List.length_append, hAl, hBl]; omega]
    exact List.take_left
  rw [← hll]
  refine Own.mk hG hg3 (by rw [hll]; omega) hcm ?_ ?_
  · rw [Hcur3.out, List.size_toArray, List.length_append, List.length_append, List.length_take, List.length_drop, hL2, hk2e]
    simp only [List.replicate_one, List.flatMap_singleton, encEnt, List.length_cons, List.length_nil]; omega
  · rw [hll, hk2e, ← ht2, Hcur3.out]
    have : (List.take ((es.length - 1) * 2) cur2.toList).length = (es.length - 1) * 2 := by rw [List.length_take, hL2]; omega
    rw [List.append_assoc]
    conv => lhs; arg 1; rw [← this]
    exact List.take_left

/-- The directory at a holds es' in w', and nothing of w but its cell and its row (blocks of G) has turned. -/
def DirTo (G : Nat → Prop) (w w' : World) (a : Addr) (es' : List Ent) : Prop :=
  ∃ v', IsDir G w' a v' es' ∧ Keeps G (w.setCell a v') w'

theorem DirTo.same {G : Nat → Prop} {w w' : World} {a : Addr} {v : Value} {es : List Ent} (h : IsDir G w a v es) (hk : Keeps NoB w w') : DirTo G w w' a es := by
  have hb := lt_of_cell h.cell
  refine ⟨v, ⟨(hk.cell hb (fun h => h)).trans h.cell, (hk.frozen hb (fun h => h)).trans h.free, h.spot, h.own.keep hk (fun _ _ h => h), h.rising, h.names, h.apart⟩, ?_⟩
  rw [setCell_self h.cell]
  exact hk.of_none

/-- A new row stored into the cell of the directory. -/
theorem DirTo.store {G : Nat → Prop} {w w1 w2 : World} {a : Addr} {v v' : Value} {es es' : List Ent} (h : IsDir G w a v es) (hk : Keeps NoB w w1) (ho : Own encEnt 41 G w2 v' es')
    (hk2 : Keeps (fun g => v.ownBlock = some g) w1 w2) (hf : ∀ g, v'.ownBlock = some g → v.ownBlock = some g ∨ w1.heap.size ≤ g) (hr : Rising es') (hn : ∀ e ∈ es', okName e.1 = true) :
    DirTo G w (w2.setCell a v') a es' := by
  have hb := lt_of_cell h.cell
  have hb1 : a.block < w1.heap.size := Nat.lt_of_lt_of_le hb hk.size
  have hap : ¬ v'.ownBlock = some a.block := fun e => (hf _ e).elim h.apart (fun h => by omega)
  have hc2 : w2.cell? a = some v := ((hk2.cell hb1 h.apart).trans (hk.cell hb (fun h => h))).trans h.cell
  have hgo : ∀ g, v.ownBlock = some g → G g := h.own.2
  refine ⟨v', ⟨?_, ?_, h.spot, ho.keep ((Keeps.refl (fun g => g = a.block) w2).setCell (Or.inl rfl) v') (fun g hg e => hap (by rw [hg, e])), hr, hn, hap⟩, ?_⟩
  · exact World.cell?_setCell_same _ _ _ hc2
  · rw [World.frozen?_setCell]
    exact ((hk2.frozen hb1 h.apart).trans (hk.frozen hb (fun h => h))).trans h.free
  · exact (hk.of_none.trans (hk2.mono (fun g _ hg => hgo g hg))).setCell2 a v'

theorem ownBlock_slice (g n c : Nat) : (Value.slice (some ⟨g, 0, none⟩) n c).ownBlock = some g := rfl

/-- slices.Insert(s, i, x). -/
theorem ins_any (G : Nat → Prop) (w : World) (v : Value) (es : List Ent) (x : Ent) (b i : Nat) (ho : Own encEnt 41 G w v es) (hG : G w.heap.size) (hn : es.length < 4294967295)
    (hx : w.heap[b]? = some (.cells #[.string x.1, .int .i64 x.2] 41 (0, 0))) (hb : ¬ v.ownBlock = some b) (hi : i ≤ es.length) :
    Calls Tryd.prog 68 #[v, .int .i64 i, .slice (some ⟨b, 0, none⟩) 1 1] w fun e w' =>
      ∃ v', e = .returned v' ∧ Own encEnt 41 G w' v' (es.take i ++ x :: es.drop i) ∧ Keeps (fun g => v.ownBlock = some g) w w' ∧ (∀ g, v'.ownBlock = some g → v.ownBlock = some g ∨ w.heap.size ≤ g) := by
  by_cases he : i = es.length
  · subst he
    refine (ins_end G w v es x b ho hG hn hx).mono ?_
    rintro e w' ⟨v', rfl, h1, h2, h3⟩
    exact ⟨v', rfl, by rw [List.take_length, List.drop_length]; exact h1, h2, h3⟩
  · rcases ho.cases with ⟨rfl, rfl⟩ | ⟨g, c, cur, rfl, hSg, hg, hcap, hmax, hsz, htk⟩
    · simp at hi; exact absurd hi he
    · by_cases hroom : es.length + 1 ≤ c
      · refine (ins_room G w g c cur es x b i hSg hn hg hcap hmax hsz htk hx (fun e => hb (by rw [e]; rfl)) (by omega) hroom).mono ?_
        rintro e w' ⟨rfl, h1, h2⟩
        exact ⟨_, rfl, h1, h2.mono (fun k _ hk => by rw [hk]; rfl), fun k hk => Or.inl hk⟩
      · refine (ins_grow G w g c cur es x b i hG hn hg hcap hmax hsz htk hx (by omega) (by omega)).mono ?_
        rintro e w' ⟨v', rfl, h1, h2, h3⟩
        exact ⟨_, rfl, h1, h2.of_none, fun k hk => Or.inr (h3 k hk)⟩

set_option maxHeartbeats 1000000 in
theorem put_any (G : Nat → Prop) (w : World) (a : Addr) (v : Value) (es : List Ent) (name : ByteArray) (n : Int) (h : IsDir G w a v es) (hn : es.length < 4294967295) (hG : ∀ g, w.heap.size ≤ g → G g) :
    Calls Tryd.prog 48 #[.pointer (some a), .string name, .int .i64 n] w fun e w' =>
      e = .returned (.int .i64 (putErr es name)) ∧ DirTo G w w' a (putTo es name n) := by
  have hfind := find_any G w a v es name h (by omega)
  have hlt := lt_of_cell h.cell
  by_cases hlong : 255 < name.size
  · have he : putErr es name = 18 := by simp [putErr, hlong]
    have He := Lib.hid he
    clear he
    go_enter Tryd.func48, Tryd.ntmps48
    go_wp2_with (go_at_call 66; refine hfind.mono ?_; rintro e w1 ⟨rfl, hk1⟩)
    go_ret
    exact ⟨by rw [He.out]; rfl, by rw [putTo, if_neg (by rw [He.out]; decide)]; exact DirTo.same h hk1⟩
  · by_cases hok : okName name = true
    · cases hhas : entHas es name with
      | true =>
        have he : putErr es name = 13 := by simp [putErr, hlong, hok, hhas]
        have He := Lib.hid he
        rw [hhas] at hfind
        clear he hhas
        go_enter Tryd.func48, Tryd.ntmps48
        go_wp2_with (first | (go_at_call 66; refine hfind.mono ?_; rintro e w1 ⟨rfl, hk1⟩) | (go_at_call 67; refine (name_any _ _).mono ?_; rintro e w2 ⟨rfl, rfl⟩))
        go_ret
        exact ⟨by rw [He.out]; rfl, by rw [putTo, if_neg (by rw [He.out]; decide)]; exact DirTo.same h hk1⟩
      | false =>
        have he : putErr es name = 0 := by simp [putErr, hlong, hok, hhas]
        have He := Lib.hid he
        have Hhas := Lib.hid hhas
        rw [hhas] at hfind
        have Hfind := Lib.hid hfind
        clear he hhas hfind
        go_enter Tryd.func48, Tryd.ntmps48
        go_wp2_with (fail)
        refine Hfind.out.mono ?_
        rintro e w1 ⟨rfl, hk1⟩
        have hc := (hk1.cell hlt (fun h => h)).trans h.cell
        have hfz := (hk1.frozen hlt (fun h => h)).trans h.free
        have ho1 := h.own.keep hk1 (fun _ _ h => h)
        have ho2 : Own encEnt 41 G (w1.alloc (.cells #[.string name, .int .i64 n] 41)) v es := ho1.keep ((Keeps.refl NoB w1).alloc _) (fun _ _ h => h)
        have hins := ins_any G _ v es (name, n) w1.heap.size (lb es name) ho2 (hG _ (by have := hk1.size; simp; omega)) hn (heap_alloc_new w1 _) (fun e => absurd (ho1.lt _ e) (by omega)) (lb_le es name)
        have Hins := Lib.hid hins
        clear hins
        go_wp2_with (first | (go_at_call 67; refine (name_any _ _).mono ?_; rintro e w2 ⟨rfl, rfl⟩) | (go_at_call 68; fail))
        refine Hins.out.mono ?_
        rintro e w3 ⟨v', rfl, ho3, hk3, hf3⟩
        have hlt1 : a.block < w1.heap.size := Nat.lt_of_lt_of_le hlt hk1.size
        have hap := h.apart
        have hc3 : w3.cell? a = some v := (hk3.cell (by simp; omega) hap).trans (((Keeps.refl NoB w1).alloc _).cell hlt1 (fun h => h) |>.trans hc)
        have hf4 : w3.frozen? a = false := (hk3.frozen (by simp; omega) hap).trans (((Keeps.refl NoB w1).alloc _).frozen hlt1 (fun h => h) |>.trans hfz)
        rw [put_at h.rising name n Hhas.out] at ho3
        have hto := DirTo.store h (hk1.alloc _) ho3 hk3 hf3 (h.rising.put name n) (fun e he => by
          simp only [entPut, List.mem_append, List.mem_filter, List.mem_singleton] at he
          rcases he with (⟨he, _⟩ | rfl) | ⟨he, _⟩
          · exact h.names e he
          · exact hok
          · exact h.names e he)
        have Hto := Lib.hid hto
        clear hto hap
        obtain ⟨p3, c3, hv3, _⟩ := ho3.sl
        subst hv3
        go_wp2_with fail
        go_ret
        exact ⟨by rw [He.out]; rfl, by rw [putTo, if_pos He.out]; exact Hto.out⟩
    · have hok' : okName name = false := by simpa using hok
      have he : putErr es name = 11 := by simp [putErr, hlong, hok']
      have He := Lib.hid he
      clear he
      go_enter Tryd.func48, Tryd.ntmps48
      go_wp2_with (first | (go_at_call 66; refine hfind.mono ?_; rintro e w1 ⟨rfl, hk1⟩) | (go_at_call 67; refine (name_any _ _).mono ?_; rintro e w2 ⟨rfl, rfl⟩))
      go_ret
      exact ⟨by rw [He.out]; rfl, by rw [putTo, if_neg (by rw [He.out]; decide)]; exact DirTo.same h hk1⟩

theorem Own.stored {α : Type} {E : Enc α} {e : TypeId} {S : Nat → Prop} {w : World} {l : List α} {g c : Nat} (h : Own E e S w (.slice (some ⟨g, 0, none⟩) l.length c) l) (i : Nat) (j : Nat) (x y : α) (u : Value)
    (hi : l[i]? = some x) (hj : j < E.k) (hy : E.enc y = (E.enc x).set j u) : Own E e S (w.setCell ⟨g, i * E.k + j, none⟩ u) (.slice (some ⟨g, 0, none⟩) l.length c) (l.set i y) := by
  obtain ⟨h1, h2⟩ := h
  have hs := (World.ownsRow.stored h1 (i * E.k + j) u).1
  have hl : (l.set i y).length = l.length := by simp
  refine ⟨?_, h2⟩
  rw [hl]
  have : (l.set i y).flatMap E.enc = (l.flatMap E.enc).set (i * E.k + j) u := by
    apply List.ext_getElem?
    intro q
    have hk := E.pos
    have hd : q = q / E.k * E.k + q % E.k := by rw [Nat.mul_comm]; exact (Nat.div_add_mod q E.k).symm
    have hm := Nat.mod_lt q hk
    rw [List.getElem?_set, hd, E.flat_get _ _ _ hm, E.flat_get _ _ _ hm, List.getElem?_set]
    have hil := (List.getElem?_eq_some_iff.1 hi).1
    by_cases e : i = q / E.k
    · subst e
      rw [if_pos rfl, if_pos hil]
      simp only [Option.bind_some, hy, List.getElem?_set, E.len, hj, if_true]
      by_cases e2 : j = q % E.k
      · subst e2
        rw [if_pos rfl, if_pos rfl, if_pos (by rw [E.flat_len]; have := Nat.mul_le_mul_right E.k (Nat.succ_le_of_lt hil); rw [Nat.succ_mul] at this; omega)]
      · rw [if_neg e2, if_neg (by omega), hi]; rfl
    · rw [if_neg e, if_neg]
      intro e3
      apply e
      have h1 := congrArg (· / E.k) e3
      have f1 : (i * E.k + j) / E.k = i := by rw [Nat.mul_comm, Nat.mul_add_div hk, Nat.div_eq_of_lt hj]; rfl
      have f2 : (q / E.k * E.k + q % E.k) / E.k = q / E.k := by rw [← hd]
      rw [f1, f2] at h1
      exact h1
  rw [this]
  exact hs

set_option maxHeartbeats 1000000 in
theorem drop_any (G : Nat → Prop) (w : World) (a : Addr) (v : Value) (es : List Ent) (name : ByteArray) (h : IsDir G w a v es) (hn : es.length < 4294967295) :
    Calls Tryd.prog 49 #[.pointer (some a), .string name] w fun e w' =>
      e = .returned (.int .i64 (hasErr es name)) ∧ DirTo G w w' a (entDel es name) := by
  have hfind := find_any G w a v es name h (by omega)
  have hlt := lt_of_cell h.cell
  have hhas := lb_has h.rising name
  cases hh : entHas es name with
  | false =>
    have He : Hid (hasErr es name = 12) := by rw [hasErr, hh]; rfl
    have hse : entDel es name = es := by
      unfold entDel
      refine List.filter_eq_self.2 fun x hx => ?_
      cases hc : decide (x.1 = name) with
      | false => rfl
      | true =>
        have : entHas es name = true := List.any_eq_true.2 ⟨x, hx, hc⟩
        rw [this] at hh; cases hh
    have Hse := Lib.hid hse
    rw [hh] at hfind
    clear hh hse hhas
    go_enter Tryd.func49, Tryd.ntmps49
    go_wp2_with (go_at_call 66; refine hfind.mono ?_; rintro e w1 ⟨rfl, hk1⟩)
    go_ret
    exact ⟨by rw [He.out]; rfl, by rw [Hse.out]; exact DirTo.same h hk1⟩
  | true =>
    have He : Hid (hasErr es name = 0) := by rw [hasErr, hh]; rfl
    rw [hh] at hhas
    cases hl : es[lb es name]? with
    | none => rw [hl] at hhas; cases hhas
    | some x =>
      have Hdel := Lib.hid (del_at h.rising name hh)
      have hll := (List.getElem?_eq_some_iff.1 hl).1
      rcases h.own.cases with ⟨_, h0⟩ | ⟨g, c, cur, hv, hSg, hg, hcap, hmax, hsz, htk⟩
      · subst h0; simp at hl
      · subst hv
        rw [hh] at hfind
        have Hfind := Lib.hid hfind
        clear hh hhas hl hfind
        go_enter Tryd.func49, Tryd.ntmps49
        go_wp2_with (fail)
        refine Hfind.out.mono ?_
        rintro e w1 ⟨rfl, hk1⟩
        have hlt1 : a.block < w1.heap.size := Nat.lt_of_lt_of_le hlt hk1.size
        have hc := (hk1.cell hlt (fun h => h)).trans h.cell
        have hfz := (hk1.frozen hlt (fun h => h)).trans h.free
        have hg1 := (hk1.block g (lt_of_block hg) (fun h => h)).trans hg
        have hdel := del_own G w1 g c cur es (lb es name) hSg hn hg1 hcap hmax hsz htk hll
        rw [Hdel.out] at hdel
        have Hdel2 := Lib.hid hdel
        clear hdel
        go_wp2_with (go_at_call 69; fail)
        refine Hdel2.out.mono ?_
        rintro e w2 ⟨rfl, ho2, hk2⟩
        have hap : ¬ a.block = g := fun e => h.apart (by rw [e]; rfl)
        have hc2 : w2.cell? a = some _ := (hk2.cell hlt1 hap).trans hc
        have hf2 : w2.frozen? a = false := (hk2.frozen hlt1 hap).trans hfz
        have hto := DirTo.store h hk1 ho2 (hk2.mono (fun k _ hk => by rw [hk]; rfl)) (fun k hk => Or.inl hk) (h.rising.del name) (fun e he => h.names e (List.mem_filter.1 he).1)
        have Hto := Lib.hid hto
        clear hto hap
        go_wp2_with fail
        go_ret
        exact ⟨by rw [He.out]; rfl, Hto.out⟩
end Go.Proofs.YtfomkkoecelakaaDoor
